import Derived.Test.YtmidechdlbcepaaGreatPack19
import Derived.Test.YtmidechdlbcepaaGreatPack13
set_option linter.unusedSimpArgs false
set_option linter.unusedVariables false
namespace Go.Proofs.YtmidechdlbcepaaGreat
open Go.RowKit

inductive Whence where
  | id (g : Nat)
  | cut (g n : Nat)
  | nil
def Whence.src : Whence → Option Nat
  | .id g => some g
  | .cut g _ => some g
  | .nil => none

mutual
inductive AV.To (φ : List (Nat × Whence)) (F : List Nat) (H : Own) : AV → AV → Prop
  | le {b a : AV} : AV.Le b a → a.flat = true → AV.To φ F H b a
  | any {b : AV} : AV.To φ F H b .any
  | ptr {g g' off : Nat} : lk φ g' = some (.id g) → AV.To φ F H (.optr g off) (.optr g' off)
  | sl {g g' : Nat} : lk φ g' = some (.id g) → AV.To φ F H (.osl g) (.osl g')
  | ptr0 {g off : Nat} : lk φ g = none → AV.To φ F H (.optr g off) (.optr g off)
  | sl0 {g : Nat} : lk φ g = none → AV.To φ F H (.osl g) (.osl g)
  | nil {g' : Nat} : lk φ g' = some .nil → AV.To φ F H .nil (.osl g')
  | cut {g g' n s : Nat} : lk φ g' = some (.cut g n) → AV.To φ F H (.osb g 0 n s) (.osl g')
  | sb {g g' lo n s : Nat} : lk φ g' = some (.id g) → AV.To φ F H (.osb g lo n s) (.osb g' lo n s)
  | sb0 {g lo n s : Nat} : lk φ g = none → AV.To φ F H (.osb g lo n s) (.osb g lo n s)
  | frz {g e s n : Nat} {us : List FV} {cs : List AV} : lk H g = some (.row e s n cs) → cs = us.map .fv → (F.contains g) = true → AV.To φ F H (.osl g) (.fv (.sl us n))
  | frb {g e s N lo n : Nat} {us : List FV} {cs : List AV} : lk H g = some (.row e s N cs) → cs = us.map .fv → lo + n ≤ N → (F.contains g) = true → AV.To φ F H (.osb g lo n s) (.fv (.sl ((us.drop (lo * s)).take (n * s)) n))
  | frp {g t off : Nat} {us : List FV} {cs : List AV} : lk H g = some (.box t cs) → cs = us.map .fv → (F.contains g) = true → AV.To φ F H (.optr g off) (.fptr (us.drop off))
  | agg {bs as : List AV} : AV.ToL φ F H bs as → AV.To φ F H (.agg bs) (.agg as)
  | tup {bs as : List AV} : AV.ToL φ F H bs as → AV.To φ F H (.tup bs) (.tup as)
  | fn {f : FuncId} {bs as : List AV} : AV.ToL φ F H bs as → AV.To φ F H (.fn f bs) (.fn f as)
inductive AV.ToL (φ : List (Nat × Whence)) (F : List Nat) (H : Own) : List AV → List AV → Prop
  | nil : AV.ToL φ F H [] []
  | cons {b a : AV} {bs as : List AV} : AV.To φ F H b a → AV.ToL φ F H bs as → AV.ToL φ F H (b :: bs) (a :: as)
end
theorem AV.ToL.maps {φ : List (Nat × Whence)} {F : List Nat} {H : Own} {us us' : List FV} (h : us = us') : AV.ToL φ F H (us.map .fv) (us'.map .fv) := by
  subst h
  induction us with
  | nil => exact .nil
  | cons u us ih => exact .cons (.le (.refl _) rfl) ih
theorem AV.ToL.ofEq {φ : List (Nat × Whence)} {F : List Nat} {H : Own} {bs : List AV} {us : List FV} (h : bs = us.map .fv) : AV.ToL φ F H bs (us.map .fv) := by
  subst h
  exact .maps rfl

def whence (φ : List (Nat × Whence)) (g' : Nat) : Whence := (lk φ g').getD (.id g')
inductive OB.To (φ : List (Nat × Whence)) (F : List Nat) (H : Own) (g' : Nat) : OB → Prop
  | nil {e s : Nat} : lk φ g' = some .nil → OB.To φ F H g' (.row e s 0 [])
  | row {g e s n n' : Nat} {cs cs' : List AV} : whence φ g' = .id g → lk H g = some (.row e s n cs) → n = n' → AV.ToL φ F H cs cs' → OB.To φ F H g' (.row e s n' cs')
  | cut {g e s N n n' : Nat} {cs cs2 cs' : List AV} : whence φ g' = .cut g n → lk H g = some (.row e s N cs) → n ≤ N → n = n' → cs.take (n * s) = cs2 → AV.ToL φ F H cs2 cs' → OB.To φ F H g' (.row e s n' cs')
  | box {g t : Nat} {cs cs' : List AV} : whence φ g' = .id g → lk H g = some (.box t cs) → AV.ToL φ F H cs cs' → OB.To φ F H g' (.box t cs')

def srcsB (φ : List (Nat × Whence)) (F : List Nat) : Own → Bool
  | [] => true
  | (g', _) :: l => (match (whence φ g').src with
    | none => true
    | some g => !F.contains g && l.all fun p => Nat.beq p.1 g' || (match (whence φ p.1).src with | some k => !Nat.beq k g | none => true)) && srcsB φ F l
def namesB (φ : List (Nat × Whence)) : Bool := φ.all fun p => Nat.blt p.1 1000

def toT (φ : List (Nat × Whence)) (F : List Nat) (H : Own) (t : List (Nat × AV)) : List (Nat × AV) → Prop
  | [] => True
  | (i, a) :: l => (∃ b, lk t i = some b ∧ AV.To φ F H b a) ∧ toT φ F H t l
def toH (φ : List (Nat × Whence)) (F : List Nat) (H : Own) : Own → Prop
  | [] => True
  | (g', ob) :: l => OB.To φ F H g' ob ∧ toH φ F H l

section
variable {C : Ctx} {H : Own} {σ : Nat → Value} {Z : Nat → Prop} {w : World} {φ : List (Nat × Whence)} {F : List Nat}
def cutV (n : Nat) : Value → Value
  | .slice A _ c => .slice A n c
  | v => v
theorem cutV_blk (n : Nat) (v : Value) : blk (cutV n v) = blk v := by
  cases v with
  | slice A m c =>
    cases A with
    | none => rfl
    | some a => cases c <;> rfl
  | _ => rfl
def newσ (φ : List (Nat × Whence)) (σ : Nat → Value) : Nat → Value := fun g' => match lk φ g' with
  | some (.id g) => σ g
  | some (.cut g n) => cutV n (σ g)
  | some .nil => .slice none 0 0
  | none => σ g'
def newZ (F : List Nat) (H : Own) (σ : Nat → Value) (Z : Nat → Prop) : Nat → Prop := fun b => Z b ∨ ∃ g ob, F.contains g = true ∧ lk H g = some ob ∧ blk (σ g) = some b
mutual
theorem AV.To.rep (hI : Inv C H σ Z w) {b a : AV} {v : Value} (h : AV.To φ F H b a) (hr : b.Rep σ Z w v) : a.Rep (newσ φ σ) (newZ F H σ Z) w v := by
  cases h with
  | le h hf => exact AV.Rep.mono (fun _ _ => rfl) (fun _ h => .inl h) (fun g hg => by rw [AV.flat_refs hf] at hg; cases hg) (h σ Z w v hr)
  | any => trivial
  | @ptr g g' off h =>
    obtain ⟨x, h1, h2⟩ := hr
    exact ⟨x, by simp only [newσ, h]; exact h1, h2⟩
  | @sl g g' h => exact ⟨by simp only [newσ, h]; exact hr.1, hr.2⟩
  | @ptr0 g off h =>
    obtain ⟨x, h1, h2⟩ := hr
    exact ⟨x, by simp only [newσ, h]; exact h1, h2⟩
  | @sl0 g h => exact ⟨by simp only [newσ, h]; exact hr.1, hr.2⟩
  | @nil g' h =>
    have : v = .slice none 0 0 := hr
    exact ⟨by simp only [newσ, h]; exact this, _, _, _, this⟩
  | @cut g g' n s h =>
    obtain ⟨A, c, A0, N, cap, rfl, q2, q3, q4, q5, q6⟩ := hr
    have := q5 rfl
    subst this
    have hc : c = cap := by omega
    subst hc
    refine ⟨?_, _, _, _, rfl⟩
    simp only [newσ, h]
    rw [q2]
    rfl
  | @sb g g' lo n s h =>
    obtain ⟨A, c, A0, N, cap, q1, q2, q3⟩ := hr
    exact ⟨A, c, A0, N, cap, q1, by simp only [newσ, h]; exact q2, q3⟩
  | @sb0 g lo n s h =>
    obtain ⟨A, c, A0, N, cap, q1, q2, q3⟩ := hr
    exact ⟨A, c, A0, N, cap, q1, by simp only [newσ, h]; exact q2, q3⟩
  | @frb g e s N lo n us cs h hc h2 hF =>
    subst hc
    exact cut_fv (hI.has g _ h) h2 hr (fun _ h => .inl h) (fun b hb => .inr ⟨g, _, hF, h, hb⟩)
  | @frz g e s n us cs h hc hF =>
    subst hc
    obtain ⟨rfl, _⟩ := hr
    exact row_fv (hI.has g _ h) (fun _ h => .inl h) (fun b hb => .inr ⟨g, _, hF, h, hb⟩)
  | @frp g t off us cs h hc hF =>
    subst hc
    obtain ⟨b, hb, rfl⟩ := hr
    have := (box_fv (hI.has g _ h) (Zc := newZ F H σ Z) (fun _ h => .inl h) hb).drop off
    rw [Nat.zero_add] at this
    exact ⟨b, off, rfl, .inr ⟨g, _, hF, h, hb⟩, this⟩
  | agg h =>
    obtain ⟨arr, e, h2⟩ := hr
    exact ⟨arr, e, AV.ToL.rep hI h h2⟩
  | tup h =>
    obtain ⟨arr, e, h2⟩ := hr
    exact ⟨arr, e, AV.ToL.rep hI h h2⟩
  | fn h =>
    obtain ⟨arr, e, h2⟩ := hr
    exact ⟨arr, e, AV.ToL.rep hI h h2⟩
theorem AV.ToL.rep (hI : Inv C H σ Z w) {bs as : List AV} {vs : List Value} (h : AV.ToL φ F H bs as) (hr : AV.RepL σ Z w bs vs) : AV.RepL (newσ φ σ) (newZ F H σ Z) w as vs := by
  cases h with
  | nil =>
    cases vs with
    | nil => trivial
    | cons => exact hr.elim
  | cons h h' =>
    cases vs with
    | nil => exact hr.elim
    | cons v vs => exact ⟨AV.To.rep hI h hr.1, AV.ToL.rep hI h' hr.2⟩
end
theorem newσ_src {g' g : Nat} (h : whence φ g' = .id g) : newσ φ σ g' = σ g := by
  unfold newσ
  unfold whence at h
  cases e : lk φ g' with
  | none => rw [e] at h; simp at h; subst h; rfl
  | some x => rw [e] at h; simp at h; subst h; rfl
theorem newσ_cut {g' g n : Nat} (h : whence φ g' = .cut g n) : newσ φ σ g' = cutV n (σ g) := by
  unfold newσ
  unfold whence at h
  cases e : lk φ g' with
  | none => rw [e] at h; simp at h
  | some x => rw [e] at h; simp at h; subst h; rfl
theorem newσ_nil {g' : Nat} (h : lk φ g' = some .nil) : newσ φ σ g' = .slice none 0 0 := by simp only [newσ, h]

theorem toH_lk : ∀ {l : Own}, toH φ F H l → ∀ {g' : Nat} {ob : OB}, lk l g' = some ob → OB.To φ F H g' ob
  | [], _, _, _, h => by simp [lk] at h
  | (k, x) :: l, hl, i, a, h => by
    rw [lk_cons] at h
    split at h
    · rename_i e; subst e; obtain rfl := Option.some.inj h; exact hl.1
    · exact toH_lk hl.2 h
theorem toT_lk {t : List (Nat × AV)} : ∀ {l : List (Nat × AV)}, toT φ F H t l → ∀ {i : Nat} {a : AV}, lk l i = some a → ∃ b, lk t i = some b ∧ AV.To φ F H b a
  | [], _, _, _, h => by simp [lk] at h
  | (k, x) :: l, hl, i, a, h => by
    rw [lk_cons] at h
    split at h
    · rename_i e; subst e; obtain rfl := Option.some.inj h; exact hl.1
    · exact toT_lk hl.2 h
theorem lk_key {α : Type} : ∀ {l : List (Nat × α)} {i : Nat} {x : α}, lk l i = some x → ∃ y, (i, y) ∈ l
  | [], _, _, h => by simp [lk] at h
  | (k, y) :: l, i, x, h => by
    rw [lk_cons] at h
    split at h
    · rename_i e; subst e; exact ⟨y, by simp⟩
    · obtain ⟨z, hz⟩ := lk_key h
      exact ⟨z, by simp [hz]⟩
theorem srcs_ok : ∀ {l : Own}, srcsB φ F l = true → (∀ p ∈ l, ∀ g, (whence φ p.1).src = some g → F.contains g = false) ∧
    ∀ (p q : Nat × OB) (g : Nat), p ∈ l → q ∈ l → (whence φ p.1).src = some g → (whence φ q.1).src = some g → p.1 = q.1
  | [], _ => ⟨fun p hp => by simp at hp, fun p q g hp => by simp at hp⟩
  | (g', ob) :: l, h => by
    simp only [srcsB, Bool.and_eq_true] at h
    obtain ⟨h0, h5⟩ := h
    obtain ⟨h1, h2⟩ := srcs_ok h5
    have key : ∀ g, (whence φ g').src = some g → F.contains g = false ∧ ∀ p ∈ l, (whence φ p.1).src = some g → p.1 = g' := fun g hs => by
      rw [hs] at h0
      simp only [Bool.and_eq_true, Bool.not_eq_true', List.all_eq_true, Bool.or_eq_true] at h0
      refine ⟨h0.1, fun p hp hg => ?_⟩
      rcases h0.2 p hp with h3 | h3
      · exact Nat.eq_of_beq_eq_true h3
      · rw [hg] at h3
        simp at h3
    refine ⟨fun p hp g hg => ?_, fun p q g hp hq e1 e2 => ?_⟩
    · rcases List.mem_cons.1 hp with rfl | hp
      · exact (key g hg).1
      · exact h1 p hp g hg
    · rcases List.mem_cons.1 hp with rfl | hp
      · rcases List.mem_cons.1 hq with rfl | hq
        · rfl
        · exact ((key g e1).2 q hq e2).symm
      · rcases List.mem_cons.1 hq with rfl | hq
        · exact (key g e2).2 p hp e1
        · exact h2 p q g hp hq e1 e2
theorem names_ok (h : namesB φ = true) {g' : Nat} (hg : 1000 ≤ g') : lk φ g' = none := by
  cases e : lk φ g' with
  | none => rfl
  | some x =>
    obtain ⟨y, hy⟩ := lk_key e
    have := List.all_eq_true.1 h _ hy
    simp [Nat.blt_eq] at this
    omega
theorem cut_row {g e q N n : Nat} {cs cs' : List AV} {Z' : Nat → Prop} {σ' : Nat → Value} (_hI : Inv C H σ Z w) (h : OB.Rep σ Z w (σ g) (.row e q N cs)) (hn : n ≤ N) (hc : ∀ {vs : List Value}, AV.RepL σ Z w (cs.take (n * q)) vs → AV.RepL σ' Z' w cs' vs) : OB.Rep σ' Z' w (cutV n (σ g)) (.row e q n cs') := by
  obtain ⟨xs, hx, hr⟩ := h
  refine ⟨xs.take (n * q), ⟨?_, ?_⟩, hc (hr.take _)⟩
  · have : n * q ≤ N * q := Nat.mul_le_mul_right q hn
    rw [List.length_take, hx.1]
    omega
  · rcases hx.2 with ⟨rfl, A, hv⟩ | ⟨b, cap, cur, hv, h0, ha, hc1, hc2, hc3, hc4⟩
    · obtain rfl : n = 0 := by omega
      exact .inl ⟨rfl, A, by rw [hv]; rfl⟩
    · refine .inr ⟨b, cap, cur, by rw [hv]; rfl, h0, ha, by omega, hc2, hc3, ?_⟩
      have : n * q ≤ N * q := Nat.mul_le_mul_right q hn
      rw [← hc4, List.take_take, Nat.min_eq_left this]
theorem St.to {s s' : St} (φ : List (Nat × Whence)) (F : List Nat) (hn : namesB φ = true) (hs : srcsB φ F s'.own = true) (ht : toT φ F s.own s.t s'.t) (hh : toH φ F s.own s'.own) : St.Le s s' := by
  rintro n C a w ⟨h1, h2, σ, Z, hI, htm⟩
  obtain ⟨hs1, hs2⟩ := srcs_ok hs
  have hnew : ∀ b, newZ F s.own σ Z b → Z b ∨ ∃ g ob, F.contains g = true ∧ lk s.own g = some ob ∧ blk (σ g) = some b := fun _ h => h
  have hsrc : ∀ {g' : Nat} {ob : OB}, lk s'.own g' = some ob → (newσ φ σ g' = .slice none 0 0) ∨ ∃ g ob0, (whence φ g').src = some g ∧ lk s.own g = some ob0 ∧ F.contains g = false ∧ blk (newσ φ σ g') = blk (σ g) := fun {g' ob} hg => by
    obtain ⟨y, hy⟩ := lk_key hg
    cases toH_lk hh hg with
    | nil h => exact .inl (newσ_nil h)
    | row h h' _ _ => exact .inr ⟨_, _, by rw [h]; rfl, h', hs1 _ hy _ (by rw [h]; rfl), by rw [newσ_src h]⟩
    | cut h h' _ _ _ _ => exact .inr ⟨_, _, by rw [h]; rfl, h', hs1 _ hy _ (by rw [h]; rfl), by rw [newσ_cut h, cutV_blk]⟩
    | box h h' _ => exact .inr ⟨_, _, by rw [h]; rfl, h', hs1 _ hy _ (by rw [h]; rfl), by rw [newσ_src h]⟩
  refine ⟨h1, h2, newσ φ σ, newZ F s.own σ Z, ⟨hI.os, hI.tape, hI.output, hI.size, hI.drawn, hI.frame, fun b hb => ?_, fun b hb => .inl (hI.zold b hb), fun b hb => ?_, fun g' ob hg => ?_, fun g' ob b hg hb => ?_, fun g g' ob ob' b hg hg' hb hb' => ?_, fun g hg => ?_⟩, fun i x hx => ?_⟩
  · rcases hnew b hb with h | ⟨g, ob, _, hg, hb⟩
    · exact hI.zlt b h
    · exact (hI.mine g ob b hg hb).2.2
  · rcases hnew b hb with h | ⟨g, ob, _, hg, hb⟩
    · exact hI.znew b h
    · exact .inr (hI.mine g ob b hg hb).1
  · cases toH_lk hh hg with
    | @nil e q h =>
      rw [newσ_nil h]
      exact ⟨[], ⟨by simp, .inl ⟨rfl, none, rfl⟩⟩, trivial⟩
    | @row g e q n n' cs cs' h h' hn hc =>
      subst hn
      rw [newσ_src h]
      obtain ⟨xs, hx, hr⟩ := hI.has g _ h'
      exact ⟨xs, hx, hc.rep hI hr⟩
    | @cut g e q N n n' cs cs2 cs' h h' hnN hn hcs hc =>
      subst hn hcs
      rw [newσ_cut h]
      exact cut_row hI (hI.has g _ h') hnN fun h => hc.rep hI h
    | @box g t cs cs' h h' hc =>
      rw [newσ_src h]
      obtain ⟨b, arr, e1, e2, hr⟩ := hI.has g _ h'
      exact ⟨b, arr, e1, e2, hc.rep hI hr⟩
  · rcases hsrc hg with h | ⟨g, ob0, h3, h4, h5, h6⟩
    · rw [h] at hb; cases hb
    · rw [h6] at hb
      have hm := hI.mine g ob0 b h4 hb
      refine ⟨hm.1, fun hz => ?_, hm.2.2⟩
      rcases hnew b hz with h | ⟨k, ob, hF, hk, hb'⟩
      · exact hm.2.1 h
      · have := hI.inj g k ob0 ob b h4 hk hb hb'
        subst this
        rw [h5] at hF
        cases hF
  · rcases hsrc hg with h | ⟨k, ob0, h3, h4, h5, h6⟩
    · rw [h] at hb; cases hb
    · rcases hsrc hg' with h | ⟨k', ob0', h3', h4', h5', h6'⟩
      · rw [h] at hb'; cases hb'
      · rw [h6] at hb
        rw [h6'] at hb'
        have := hI.inj k k' _ _ b h4 h4' hb hb'
        subst this
        obtain ⟨y, hy⟩ := lk_key hg
        obtain ⟨y', hy'⟩ := lk_key hg'
        exact hs2 _ _ k hy hy' h3 h3'
  · have := names_ok hn hg
    simp only [newσ, this]
    exact hI.keep g hg
  · obtain ⟨b, h3, h4⟩ := toT_lk ht hx
    exact h4.rep hI (htm i b h3)
end
theorem LEff.callBL {P : Program} {T : Tbl} {t : List (Nat × AV)} {H : Own} {d : Nat} {r : AV} {f : Operand} {args : Array Operand} {ts : Array TypeId} {fid : FuncId} {cs as0 as : List AV} (h1 : evO t f = some (.fn fid cs)) (h2 : evL t args.toList = some as0) (h4 : Fun P fid as r) (h3 : BorL H (as0 ++ cs) as) (h5 : r.scal = true) :
    LEff P T (St.ev ⟨t, H⟩) H d (.call { callee := .value f, args := args, argTypes := ts }) r [] :=
  .callB (evO_ev (st := ⟨t, H⟩) h1) (by rw [evL_ev (st := ⟨t, H⟩) h2]; exact h3) h4 h5
theorem LEff.callBG {P : Program} {T : Tbl} {t : List (Nat × AV)} {H : Own} {d : Nat} {r : AV} {f : Operand} {args : Array Operand} {ts : Array TypeId} {fid : FuncId} {cs as0 as : List AV} (h1 : evG t f = some (.fn fid cs)) (h2 : evGL t args.toList = some as0) (h4 : Fun P fid as r) (h3 : BorL H (as0 ++ cs) as) (h5 : r.scal = true) :
    LEff P T (fun x => (St.ev ⟨t, H⟩ x).strip) H d (.call { callee := .value f, args := args, argTypes := ts }) r [] :=
  .callB (evG_ev (st := ⟨t, H⟩) h1) (by rw [evGL_ev (st := ⟨t, H⟩) h2]; exact h3) h4 h5
theorem refsL_app {g : Nat} : ∀ {as bs : List AV}, AV.refsL g (as ++ bs) = (AV.refsL g as || AV.refsL g bs)
  | [], _ => rfl
  | a :: as, bs => by simp [AV.refsL, refsL_app, Bool.or_assoc]
theorem take_flat {α : Type} {enc : α → List FV} {l : List α} {k : Nat} {x : α} (h : l[k]? = some x) : (l.take (k + 1)).flatMap enc = (l.take k).flatMap enc ++ enc x := by
  have hlt := (List.getElem?_eq_some_iff.1 h).1
  rw [List.take_add_one, h]
  simp
theorem take_len {α : Type} {l : List α} {k : Nat} {x : α} (h : l[k]? = some x) : (l.take (k + 1)).length = (l.take k).length + 1 := by
  have hlt := (List.getElem?_eq_some_iff.1 h).1
  simp
  omega
end Go.Proofs.YtmidechdlbcepaaGreat

namespace Go.Proofs.YtmidechdlbcepaaGreat
open Go.RowKit

def FunO (P : Program) (f : FuncId) (args : List AV) (own : Own) (r : AV) (own' : Own) : Prop := Triple P f args own fun r' o' => r' = r ∧ o' = own'

mutual
theorem AV.To.own {φ : List (Nat × Whence)} {F : List Nat} {H H' : Own} (hl : ∀ g, F.contains g = true → lk H' g = lk H g) {b a : AV} (h : AV.To φ F H b a) : AV.To φ F H' b a := by
  cases h with
  | le h1 h2 => exact .le h1 h2
  | any => exact .any
  | ptr h => exact .ptr h
  | sl h => exact .sl h
  | ptr0 h => exact .ptr0 h
  | sl0 h => exact .sl0 h
  | nil h => exact .nil h
  | frz h1 h2 h3 => exact .frz ((hl _ h3).trans h1) h2 h3
  | frp h1 h2 h3 => exact .frp ((hl _ h3).trans h1) h2 h3
  | cut h => exact .cut h
  | sb h => exact .sb h
  | sb0 h => exact .sb0 h
  | frb h1 h2 h3 h4 => exact .frb ((hl _ h4).trans h1) h2 h3 h4
  | agg h => exact .agg (AV.ToL.own hl h)
  | tup h => exact .tup (AV.ToL.own hl h)
  | fn h => exact .fn (AV.ToL.own hl h)
theorem AV.ToL.own {φ : List (Nat × Whence)} {F : List Nat} {H H' : Own} (hl : ∀ g, F.contains g = true → lk H' g = lk H g) {b a : List AV} (h : AV.ToL φ F H b a) : AV.ToL φ F H' b a := by
  cases h with
  | nil => exact .nil
  | cons h h' => exact .cons (AV.To.own hl h) (AV.ToL.own hl h')
end
def srcsN : List (Nat × Whence) → List Nat
  | [] => []
  | (_, .id g) :: l => g :: srcsN l
  | (_, .cut g _) :: l => g :: srcsN l
  | (_, .nil) :: l => srcsN l
theorem srcsN_mem : ∀ {φ : List (Nat × Whence)} {k g : Nat} {x : Whence}, lk φ k = some x → x.src = some g → g ∈ srcsN φ
  | [], _, _, _, h, _ => by simp [lk] at h
  | (k', .id g') :: l, k, g, x, h, hx => by
    rw [lk_cons] at h
    split at h
    · obtain rfl := Option.some.inj h; simp [Whence.src] at hx; simp [srcsN, hx]
    · simp [srcsN, srcsN_mem h hx]
  | (k', .cut g' n) :: l, k, g, x, h, hx => by
    rw [lk_cons] at h
    split at h
    · obtain rfl := Option.some.inj h; simp [Whence.src] at hx; simp [srcsN, hx]
    · simp [srcsN, srcsN_mem h hx]
  | (k', .nil) :: l, k, g, x, h, hx => by
    rw [lk_cons] at h
    split at h
    · obtain rfl := Option.some.inj h; simp [Whence.src] at hx
    · simp [srcsN, srcsN_mem h hx]
def givenB (φ : List (Nat × Whence)) : Own → Bool
  | [] => true
  | (k, _) :: l => (match lk φ k with | some _ => true | none => false) && Nat.ble 1000 k && givenB φ l
theorem givenB_lk {φ : List (Nat × Whence)} : ∀ {l : Own} {k : Nat} {ob : OB}, givenB φ l = true → lk l k = some ob → (∃ x, lk φ k = some x) ∧ 1000 ≤ k
  | [], _, _, _, h => by simp [lk] at h
  | (k', x) :: l, k, ob, hg, h => by
    simp only [givenB, Bool.and_eq_true] at hg
    rw [lk_cons] at h
    split at h
    · rename_i e
      subst e
      refine ⟨?_, Nat.le_of_ble_eq_true hg.1.2⟩
      have := hg.1.1
      cases e : lk φ k' with
      | none => rw [e] at this; cases this
      | some y => exact ⟨y, rfl⟩
    · exact givenB_lk hg.2 h
theorem OB.To.own {φ : List (Nat × Whence)} {F : List Nat} {H H' : Own} {k : Nat} {ob : OB} (hk : ∃ x, lk φ k = some x) (hl : ∀ g, F.contains g = true → lk H' g = lk H g) (hs : ∀ g ∈ srcsN φ, lk H' g = lk H g) (h : OB.To φ F H k ob) : OB.To φ F H' k ob := by
  obtain ⟨x, hx⟩ := hk
  have key : ∀ g, (whence φ k).src = some g → g ∈ srcsN φ := fun g hg => by
    simp only [whence, hx, Option.getD_some] at hg
    exact srcsN_mem hx hg
  cases h with
  | nil h => exact .nil h
  | row h1 h2 h3 h4 => exact .row h1 ((hs _ (key _ (by rw [h1]; rfl))).trans h2) h3 (h4.own hl)
  | cut h1 h2 h3 h5 h6 h4 => exact .cut h1 ((hs _ (key _ (by rw [h1]; rfl))).trans h2) h3 h5 h6 (h4.own hl)
  | box h1 h2 h4 => exact .box h1 ((hs _ (key _ (by rw [h1]; rfl))).trans h2) (h4.own hl)
theorem toH_own {φ : List (Nat × Whence)} {F : List Nat} {H H' : Own} (hl : ∀ g, F.contains g = true → lk H' g = lk H g) (hs : ∀ g ∈ srcsN φ, lk H' g = lk H g) : ∀ {l : Own}, givenB φ l = true → toH φ F H l → toH φ F H' l
  | [], _, _ => trivial
  | (k, ob) :: l, hg, ⟨h1, h2⟩ => by
    have hk := (givenB_lk (k := k) (ob := ob) hg (lk_hit _ _ _)).1
    simp only [givenB, Bool.and_eq_true] at hg
    exact ⟨h1.own hk hl hs, toH_own hl hs hg.2 h2⟩

section
variable {C : Ctx} {H : Own} {σ : Nat → Value} {Z : Nat → Prop} {w : World} {φ : List (Nat × Whence)} {F : List Nat}
theorem toH_src {own : Own} (hh : toH φ F H own) {k : Nat} {ob : OB} (hk : lk own k = some ob) : (newσ φ σ k = .slice none 0 0) ∨ ∃ g ob0, (whence φ k).src = some g ∧ lk H g = some ob0 ∧ blk (newσ φ σ k) = blk (σ g) := by
  cases toH_lk hh hk with
  | nil h => exact .inl (newσ_nil h)
  | row h h' _ _ => exact .inr ⟨_, _, by rw [h]; rfl, h', by rw [newσ_src h]⟩
  | cut h h' _ _ _ _ => exact .inr ⟨_, _, by rw [h]; rfl, h', by rw [newσ_cut h, cutV_blk]⟩
  | box h h' _ => exact .inr ⟨_, _, by rw [h]; rfl, h', by rw [newσ_src h]⟩
theorem toH_has {own : Own} (hI : Inv C H σ Z w) (hh : toH φ F H own) {k : Nat} {ob : OB} (hk : lk own k = some ob) : ob.Rep (newσ φ σ) (newZ F H σ Z) w (newσ φ σ k) := by
  cases toH_lk hh hk with
  | @nil e q h =>
    rw [newσ_nil h]
    exact ⟨[], ⟨by simp, .inl ⟨rfl, none, rfl⟩⟩, trivial⟩
  | @row g e q n n' cs cs' h h' hn hc =>
    subst hn
    rw [newσ_src h]
    obtain ⟨xs, hx, hr⟩ := hI.has g _ h'
    exact ⟨xs, hx, hc.rep hI hr⟩
  | @cut g e q N n n' cs cs2 cs' h h' hnN hn hcs hc =>
    subst hn hcs
    rw [newσ_cut h]
    exact cut_row hI (hI.has g _ h') hnN fun h => hc.rep hI h
  | @box g t cs cs' h h' hc =>
    rw [newσ_src h]
    obtain ⟨b, arr, e1, e2, hr⟩ := hI.has g _ h'
    exact ⟨b, arr, e1, e2, hc.rep hI hr⟩
theorem inv_call {own : Own} (hI : Inv C H σ Z w) (hs : srcsB φ F own = true) (hh : toH φ F H own) : Inv (ctx0 own (newσ φ σ) (newZ F H σ Z) w) own (newσ φ σ) (newZ F H σ Z) w := by
  obtain ⟨hs1, hs2⟩ := srcs_ok hs
  refine ⟨rfl, rfl, rfl, Nat.le_refl _, Nat.le_refl _, fun _ _ _ => rfl, fun b hb => ?_, fun _ h => h, fun _ h => .inl h, fun k ob hk => toH_has hI hh hk, fun k ob b hk hb => ?_, fun k k' ob ob' b hk hk' hb hb' => ?_, fun _ _ => rfl⟩
  · rcases hb with h | ⟨g, ob, _, hg, hb⟩
    · exact hI.zlt b h
    · exact (hI.mine g ob b hg hb).2.2
  · have hb0 := hb
    rcases toH_src (σ := σ) hh hk with h | ⟨g, ob0, h3, h4, h5⟩
    · rw [h] at hb; cases hb
    · rw [h5] at hb
      have hm := hI.mine g ob0 b h4 hb
      refine ⟨.inl ⟨k, ob, hk, hb0⟩, fun hz => ?_, hm.2.2⟩
      rcases hz with h | ⟨k', ob', hF, hk', hb'⟩
      · exact hm.2.1 h
      · have := hI.inj g k' ob0 ob' b h4 hk' hb hb'
        subst this
        obtain ⟨y, hy⟩ := lk_key hk
        rw [hs1 _ hy _ h3] at hF
        cases hF
  · rcases toH_src (σ := σ) hh hk with h | ⟨g, ob0, h3, h4, h5⟩
    · rw [h] at hb; cases hb
    · rcases toH_src (σ := σ) hh hk' with h | ⟨g', ob0', h3', h4', h5'⟩
      · rw [h] at hb'; cases hb'
      · rw [h5] at hb
        rw [h5'] at hb'
        have := hI.inj g g' _ _ b h4 h4' hb hb'
        subst this
        obtain ⟨y, hy⟩ := lk_key hk
        obtain ⟨y', hy'⟩ := lk_key hk'
        exact hs2 _ _ g hy hy' h3 h3'
end

def scalB (L : Bool) (a : AV) : Bool := match L with
  | true => a.scal
  | false => a.flat
mutual
inductive AV.Rn (L : Bool) (ν : List (Nat × Nat)) : AV → AV → Prop
  | le {a : AV} : scalB L a = true → AV.Rn L ν a a
  | nil : AV.Rn L ν .nil .nil
  | ptr {k g off : Nat} : lk ν k = some g → AV.Rn L ν (.optr k off) (.optr g off)
  | sl {k g : Nat} : lk ν k = some g → AV.Rn L ν (.osl k) (.osl g)
  | agg {as bs : List AV} : AV.RnL L ν as bs → AV.Rn L ν (.agg as) (.agg bs)
  | tup {as bs : List AV} : AV.RnL L ν as bs → AV.Rn L ν (.tup as) (.tup bs)
  | fn {f : FuncId} {as bs : List AV} : AV.RnL L ν as bs → AV.Rn L ν (.fn f as) (.fn f bs)
inductive AV.RnL (L : Bool) (ν : List (Nat × Nat)) : List AV → List AV → Prop
  | nil : AV.RnL L ν [] []
  | cons {a b : AV} {as bs : List AV} : AV.Rn L ν a b → AV.RnL L ν as bs → AV.RnL L ν (a :: as) (b :: bs)
end
theorem AV.RnL.maps {ν : List (Nat × Nat)} : ∀ (us : List FV), AV.RnL false ν (us.map .fv) (us.map .fv)
  | [] => .nil
  | _ :: us => .cons (.le rfl) (AV.RnL.maps us)
theorem AV.RnL.mapsS {L : Bool} {ν : List (Nat × Nat)} : ∀ {us : List FV}, (∀ u ∈ us, (AV.fv u).scal = true) → AV.RnL L ν (us.map .fv) (us.map .fv)
  | [], _ => .nil
  | u :: us, h => .cons (.le (by
      unfold scalB
      split
      · exact h u (by simp)
      · rfl)) (AV.RnL.mapsS fun x hx => h x (by simp [hx]))
theorem AV.RnL.app {L : Bool} {ν : List (Nat × Nat)} : ∀ {as bs cs ds : List AV}, AV.RnL L ν as bs → AV.RnL L ν cs ds → AV.RnL L ν (as ++ cs) (bs ++ ds)
  | [], _, _, _, h, h' => by cases h; exact h'
  | _ :: _, _, _, _, h, h' => by cases h with | cons h1 h2 => exact .cons h1 (h2.app h')
inductive OB.Rn (L : Bool) (ν : List (Nat × Nat)) : OB → OB → Prop
  | row {e s n : Nat} {cs cs' : List AV} : AV.RnL L ν cs cs' → OB.Rn L ν (.row e s n cs) (.row e s n cs')
  | box {t : Nat} {cs cs' : List AV} : AV.RnL L ν cs cs' → OB.Rn L ν (.box t cs) (.box t cs')
inductive OwnRn (L : Bool) (ν : List (Nat × Nat)) : Own → Own → Prop
  | nil : OwnRn L ν [] []
  | cons {k g : Nat} {ob ob' : OB} {l l' : Own} : lk ν k = some g → OB.Rn L ν ob ob' → OwnRn L ν l l' → OwnRn L ν ((k, ob) :: l) ((g, ob') :: l')

section
variable {L : Bool} {ν : List (Nat × Nat)} {σ σ2 : Nat → Value} {Z Z2 : Nat → Prop} {w : World}
mutual
theorem AV.Rn.rep (hz : L = true ∨ ∀ b, Z b → Z2 b) (hσ : ∀ k g, lk ν k = some g → σ2 g = σ k) {a b : AV} {v : Value} (h : AV.Rn L ν a b) (hr : a.Rep σ Z w v) : b.Rep σ2 Z2 w v := by
  cases h with
  | le h =>
    cases L with
    | true => exact AV.scal_rep h hr
    | false => exact AV.Rep.mono (fun _ _ => rfl) (hz.resolve_left (by simp)) (fun g hg => by rw [AV.flat_refs h] at hg; cases hg) hr
  | nil => exact hr
  | ptr h =>
    obtain ⟨x, h1, h2⟩ := hr
    exact ⟨x, by rw [hσ _ _ h]; exact h1, h2⟩
  | sl h => exact ⟨by rw [hσ _ _ h]; exact hr.1, hr.2⟩
  | agg h =>
    obtain ⟨arr, e, h2⟩ := hr
    exact ⟨arr, e, AV.RnL.rep hz hσ h h2⟩
  | tup h =>
    obtain ⟨arr, e, h2⟩ := hr
    exact ⟨arr, e, AV.RnL.rep hz hσ h h2⟩
  | fn h =>
    obtain ⟨arr, e, h2⟩ := hr
    exact ⟨arr, e, AV.RnL.rep hz hσ h h2⟩
theorem AV.RnL.rep (hz : L = true ∨ ∀ b, Z b → Z2 b) (hσ : ∀ k g, lk ν k = some g → σ2 g = σ k) {as bs : List AV} {vs : List Value} (h : AV.RnL L ν as bs) (hr : AV.RepL σ Z w as vs) : AV.RepL σ2 Z2 w bs vs := by
  cases h with
  | nil =>
    cases vs with
    | nil => trivial
    | cons => exact hr.elim
  | cons h h' =>
    cases vs with
    | nil => exact hr.elim
    | cons v vs => exact ⟨AV.Rn.rep hz hσ h hr.1, AV.RnL.rep hz hσ h' hr.2⟩
end
theorem OB.Rn.rep (hz : L = true ∨ ∀ b, Z b → Z2 b) (hσ : ∀ k g, lk ν k = some g → σ2 g = σ k) {a b : OB} {v : Value} (h : OB.Rn L ν a b) (hr : a.Rep σ Z w v) : b.Rep σ2 Z2 w v := by
  cases h with
  | row h =>
    obtain ⟨xs, h1, h2⟩ := hr
    exact ⟨xs, h1, h.rep hz hσ h2⟩
  | box h =>
    obtain ⟨b, arr, h1, h2, h3⟩ := hr
    exact ⟨b, arr, h1, h2, h.rep hz hσ h3⟩
def vals (ν : List (Nat × Nat)) : List Nat := ν.map (·.2)
theorem vals_mem {k g : Nat} (h : lk ν k = some g) : g ∈ vals ν := List.mem_map.2 ⟨(k, g), lk_mem h, rfl⟩
theorem scalB_refs {a : AV} (h : scalB L a = true) (g : Nat) : a.refs g = false := by
  cases L with
  | true => exact AV.flat_refs (AV.scal_flat h)
  | false => exact AV.flat_refs h
mutual
theorem AV.Rn.refs {g : Nat} (hg : g ∉ vals ν) {a b : AV} (h : AV.Rn L ν a b) : b.refs g = false := by
  cases h with
  | le h => exact scalB_refs h g
  | nil => rfl
  | @ptr k g' off h =>
    simp only [AV.refs]
    cases e : Nat.beq g' g with
    | false => rfl
    | true => have := Nat.eq_of_beq_eq_true e; subst this; exact absurd (vals_mem h) hg
  | @sl k g' h =>
    simp only [AV.refs]
    cases e : Nat.beq g' g with
    | false => rfl
    | true => have := Nat.eq_of_beq_eq_true e; subst this; exact absurd (vals_mem h) hg
  | agg h => simpa [AV.refs] using AV.RnL.refs hg h
  | tup h => simpa [AV.refs] using AV.RnL.refs hg h
  | fn h => simpa [AV.refs] using AV.RnL.refs hg h
theorem AV.RnL.refs {g : Nat} (hg : g ∉ vals ν) {as bs : List AV} (h : AV.RnL L ν as bs) : AV.refsL g bs = false := by
  cases h with
  | nil => rfl
  | cons h h' => simp only [AV.refsL, Bool.or_eq_false_iff]; exact ⟨AV.Rn.refs hg h, AV.RnL.refs hg h'⟩
end
def oneB (ν : List (Nat × Nat)) : Bool := ν.all fun p => ν.all fun q => Nat.beq p.1 q.1 == Nat.beq p.2 q.2
def rev (ν : List (Nat × Nat)) : List (Nat × Nat) := ν.map fun p => (p.2, p.1)
theorem rev_lk (h : oneB ν = true) {k g : Nat} : lk (rev ν) g = some k ↔ lk ν k = some g := by
  have key : ∀ l : List (Nat × Nat), (∀ p ∈ l, p ∈ ν) → (lk (rev l) g = some k ↔ lk l k = some g) := by
    intro l
    induction l with
    | nil => intro _; simp [rev, lk]
    | cons p l ih =>
      intro hl
      obtain ⟨a, b⟩ := p
      have ih := ih fun q hq => hl q (by simp [hq])
      have ha := hl (a, b) (by simp)
      simp only [rev, List.map_cons, lk_cons] at ih ⊢
      have hab : ∀ q ∈ ν, Nat.beq a q.1 = Nat.beq b q.2 := fun q hq => by
        have := List.all_eq_true.1 (List.all_eq_true.1 h _ ha) q hq
        simpa using this
      by_cases e1 : b = g
      · subst e1
        by_cases e2 : a = k
        · subst e2; simp
        · simp only [if_pos, e2, if_false, Option.some.injEq, false_iff]
          intro hc
          have := hab _ (hl (k, b) (by have := lk_mem hc; simp [this]))
          simp at this
          exact e2 this
      · by_cases e2 : a = k
        · subst e2
          simp only [if_neg e1, if_pos, Option.some.injEq]
          constructor
          · intro hc
            have hm := lk_mem hc
            obtain ⟨q, hq, hqe⟩ := List.mem_map.1 hm
            have := hab _ (hl q (by simp [hq]))
            obtain ⟨q1, q2⟩ := q
            simp at hqe
            obtain ⟨rfl, rfl⟩ := hqe
            simp at this
            exact absurd this e1
          · intro hc; exact absurd hc e1
        · simp only [if_neg e1, if_neg e2]
          exact ih
  exact key ν fun _ h => h
theorem OwnRn.lk (h1 : oneB ν = true) : ∀ {l l' : Own}, OwnRn L ν l l' → ∀ {g : Nat} {ob' : OB}, Go.Proofs.YtmidechdlbcepaaGreat.lk l' g = some ob' → ∃ k ob, Go.Proofs.YtmidechdlbcepaaGreat.lk ν k = some g ∧ Go.Proofs.YtmidechdlbcepaaGreat.lk l k = some ob ∧ OB.Rn L ν ob ob'
  | _, _, .nil, _, _, h => by simp [Go.Proofs.YtmidechdlbcepaaGreat.lk] at h
  | _, _, @OwnRn.cons _ _ k g0 ob ob0 l l' e1 e2 e3, g, ob', h => by
    rw [lk_cons] at h
    split at h
    · rename_i e
      subst e
      obtain rfl := Option.some.inj h
      exact ⟨k, ob, e1, lk_hit _ _ _, e2⟩
    · rename_i e
      obtain ⟨k', ob1, h2, h3, h4⟩ := OwnRn.lk h1 e3 h
      refine ⟨k', ob1, h2, ?_, h4⟩
      rw [lk_skip _ _ (by rintro rfl; rw [e1] at h2; exact e (Option.some.inj h2))]
      exact h3
end
def backB (φ : List (Nat × Whence)) (ν : List (Nat × Nat)) : Bool := ν.all fun p => match lk φ p.1 with
  | some (.id g) => Nat.beq g p.2 && Nat.ble 1000 p.1
  | _ => Nat.blt p.2 1000
def newsN (φ : List (Nat × Whence)) : List (Nat × Nat) → List Nat
  | [] => []
  | (k, g) :: l => match lk φ k with
    | some (.id _) => newsN φ l
    | _ => g :: newsN φ l
theorem newsN_mem {φ : List (Nat × Whence)} : ∀ {ν : List (Nat × Nat)} {k g : Nat}, (k, g) ∈ ν → (∀ x, lk φ k ≠ some (.id x)) → g ∈ newsN φ ν
  | (k', g') :: l, k, g, h, hn => by
    simp only [newsN]
    rcases List.mem_cons.1 h with h | h
    · simp only [Prod.mk.injEq] at h
      obtain ⟨rfl, rfl⟩ := h
      split
      · rename_i x hx; exact absurd hx (hn x)
      · simp
    · split
      · exact newsN_mem h hn
      · simp [newsN_mem h hn]
theorem back_cases {φ : List (Nat × Whence)} {ν : List (Nat × Nat)} (hb : backB φ ν = true) {k g : Nat} (h : lk ν k = some g) : (lk φ k = some (.id g) ∧ 1000 ≤ k) ∨ (g < 1000 ∧ g ∈ newsN φ ν) := by
  have := List.all_eq_true.1 hb _ (lk_mem h)
  cases e : lk φ k with
  | none => rw [e] at this; exact .inr ⟨by simpa [Nat.blt_eq] using this, newsN_mem (lk_mem h) (fun x => by rw [e]; simp)⟩
  | some y =>
    cases y with
    | nil => rw [e] at this; exact .inr ⟨by simpa [Nat.blt_eq] using this, newsN_mem (lk_mem h) (fun x => by rw [e]; simp)⟩
    | cut g2 n => rw [e] at this; exact .inr ⟨by simpa [Nat.blt_eq] using this, newsN_mem (lk_mem h) (fun x => by rw [e]; simp)⟩
    | id g' =>
      rw [e] at this
      simp only [Bool.and_eq_true] at this
      have h1 := Nat.eq_of_beq_eq_true this.1
      subst h1
      exact .inl ⟨rfl, Nat.le_of_ble_eq_true this.2⟩
def dropF : Bool → List Nat → List Nat
  | true, _ => []
  | false, F => F
def rest (N : List Nat) : Own → Own
  | [] => []
  | (k, ob) :: l => match N.contains k with
    | true => rest N l
    | false => (k, ob) :: rest N l
theorem lk_rest {N : List Nat} {g : Nat} : ∀ (H : Own), lk (rest N H) g = if g ∈ N then none else lk H g
  | [] => by simp [rest, lk]
  | (k, x) :: l => by
    simp only [rest]
    cases e : N.contains k with
    | true =>
      simp only [lk_cons, lk_rest l]
      split
      · rfl
      · split
        · rename_i e'; subst e'; simp at e; rename_i h; exact absurd e h
        · rfl
    | false =>
      simp only [lk_cons, lk_rest l]
      split
      · rename_i e'; subst e'; simp at e; simp [e]
      · rfl

section
variable {P : Program} {T : Tbl} {n i : Nat} {ops : Array Oper} {st : St} {o : Oper} {d : Nat}
set_option maxHeartbeats 1000000 in
theorem Step.callO {f : Operand} {args : Array Operand} {ts : Array TypeId} {fid : FuncId} {cs as : List AV} {r r' : AV} {ownC own' A : Own} {φ : List (Nat × Whence)} {F : List Nat} {ν : List (Nat × Nat)} {L : Bool}
    (ho : ops[i]? = some o) (hg : o.guard = none) (hd : o.dst = some d) (hn : d < n) (hop : o.op = .call { callee := .value f, args := args, argTypes := ts }) (hf : st.ev f = .fn fid cs) (hto : AV.ToL φ F st.own (args.toList.map st.ev ++ cs) as) (hoc : toH φ F st.own ownC)
    (hgv : givenB φ ownC = true) (hsrc : srcsB φ F ownC = true) (hC : FunO P fid as ownC r own') (hr : AV.Rn L ν r r') (hA : OwnRn L ν own' A) (h1 : oneB ν = true) (hb : backB φ ν = true) (hfr : ∀ g ∈ newsN φ ν, NoT g st.t ∧ NoH g st.own) :
    Step P T n ops i ⟨srcsN φ ++ F, srcsN φ ++ newsN φ ν ++ dropF L F, newsN φ ν⟩ st ⟨(d, r') :: st.t, A ++ rest (srcsN φ ++ vals ν ++ dropF L F) st.own⟩ := by
  intro hT
  let D : List (Nat × Option OB) := A.map (fun p => (p.1, some p.2)) ++ (srcsN φ ++ vals ν ++ dropF L F).map fun g => (g, none)
  have hDn : ∀ (N : List Nat) (g : Nat), lk (N.map fun g => (g, (none : Option OB))) g = if g ∈ N then some none else none := by
    intro N g
    induction N with
    | nil => simp [lk]
    | cons a N ih =>
      simp only [List.map_cons, lk_cons, ih]
      by_cases h : a = g
      · subst h; simp
      · simp [h, Ne.symm h]
  have hD : ∀ (H : Own) g, eff D H g = lk (A ++ rest (srcsN φ ++ vals ν ++ dropF L F) H) g := by
    intro H g
    simp only [eff, D, lk_append, lk_mapSome, hDn, lk_rest]
    cases lk A g with
    | some x => rfl
    | none =>
      simp only [Option.map_none]
      split <;> simp_all
  have hvals : ∀ g, g ∈ vals ν → g ∈ srcsN φ ∨ g ∈ newsN φ ν := by
    intro g hg
    obtain ⟨⟨k, g'⟩, hp, rfl⟩ := List.mem_map.1 hg
    have := List.all_eq_true.1 hb _ hp
    cases e : lk φ k with
    | none => exact .inr (newsN_mem hp (fun x => by rw [e]; simp))
    | some y =>
      cases y with
      | nil => exact .inr (newsN_mem hp (fun x => by rw [e]; simp))
      | cut g2 n => exact .inr (newsN_mem hp (fun x => by rw [e]; simp))
      | id g2 =>
        simp only [e, Bool.and_eq_true] at this
        have h2 := Nat.eq_of_beq_eq_true this.1
        subst h2
        exact .inl (srcsN_mem e rfl)
  refine ⟨o, some (d, r'), D, ho, ⟨fun s2 s2' e1 e2 hf2 hi => ?_, fun g e1 e2 e3 e4 => ?_, fun q hq => (by obtain rfl := Option.some.inj hq; exact hd), fun k x hk => ?_, fun g hg => List.mem_append_left _ (List.mem_append_right _ hg)⟩, fun g hg => hfr g hg, ⟨fun _ => rfl, fun g => (hD _ g).symm⟩⟩
  · -- the call itself
    have he := ev_looks (st := st) (st' := s2) e1
    rw [hop] at he
    have hFl : ∀ g, F.contains g = true → lk s2.own g = lk st.own g := fun g hg => e2 g (List.mem_append_right _ (by simpa using hg))
    have hSl : ∀ g ∈ srcsN φ, lk s2.own g = lk st.own g := fun g hg => e2 g (List.mem_append_left _ hg)
    have hto2 : AV.ToL φ F s2.own (args.toList.map s2.ev ++ cs) as := by
      have : args.toList.map s2.ev = args.toList.map st.ev := List.map_congr_left fun x hx => he x (by simp [Op.operands, Call.operands]; exact .inr (by simpa using hx))
      rw [this]
      exact hto.own hFl
    have hoc2 : toH φ F s2.own ownC := toH_own hFl hSl hgv hoc
    have hf2' : s2.ev f = .fn fid cs := (he f (by simp [Op.operands, Call.operands])).trans hf
    intro C a w K Q hrel hK
    obtain ⟨q1, q2, σ, Z, hI, ht⟩ := hrel
    have ef := ev_rep ht f
    rw [hf2'] at ef
    obtain ⟨caps, hv, hcs⟩ := ef
    have hargs : AV.RepL σ Z w (args.toList.map s2.ev ++ cs) ((args.map a.eval).toList ++ caps.toList) := by
      refine AV.RepL.append ?_ hcs
      simpa using repL_get (ev_rep ht) args.toList
    have hrun : (execOp a.eval o).run P w = .ok (.enter fid (args.map a.eval ++ caps)) w := by
      simp [execOp, hop, resolve, hv, Deferred.ofValue, invoke, run_callFunc_enter hC.1]
    have hIc := inv_call (F := F) hI hsrc hoc2
    have hc := hC.2 _ _ w _ hIc (hto2.rep hI hargs)
    have hea : ((args.map a.eval).toList ++ caps.toList).toArray = args.map a.eval ++ caps := by
      apply Array.ext'
      simp
    rw [hea] at hc
    unfold wpOp
    simp only [ho]
    rw [if_pos (by simp [Region.wanted, hg])]
    refine .inl ?_
    unfold Oper.wp
    rw [hrun]
    show Calls P fid _ w _
    refine hc.mono ?_
    rintro e w' ⟨v, r0, own0, σ', Z', rfl, ⟨rfl, rfl⟩, hI', hrv⟩
    show K (a.put o.dst v) w'
    -- blocks that the callee may change
    have hmineC : ∀ b, Mine ownC (newσ φ σ) b → ∃ g ob0, g ∈ srcsN φ ∧ lk s2.own g = some ob0 ∧ blk (σ g) = some b := by
      rintro b ⟨k, ob, hk, hbk⟩
      rcases toH_src (σ := σ) hoc2 hk with h | ⟨g, ob0, h3, h4, h5⟩
      · rw [h] at hbk; cases hbk
      · rw [h5] at hbk
        obtain ⟨⟨x, hx⟩, _⟩ := givenB_lk hgv hk
        refine ⟨g, ob0, ?_, h4, hbk⟩
        simp only [whence, hx, Option.getD_some] at h3
        exact srcsN_mem hx h3
    have hkeepB : ∀ b, b < w.heap.size → ¬ Mine ownC (newσ φ σ) b → w'.heap[b]? = w.heap[b]? := fun b h1 h2 => hI'.frame b h1 h2
    have hkeep : Keeps Z w w' := fun b hz => hkeepB b (hI.zlt b hz) fun hm => by
      obtain ⟨g, ob0, _, h3, h4⟩ := hmineC b hm
      exact (hI.mine g ob0 b h3 h4).2.1 hz
    let σ2 : Nat → Value := fun g => match lk (rev ν) g with
      | some k => σ' k
      | none => σ g
    have hσ2 : ∀ k g, lk ν k = some g → σ2 g = σ' k := fun k g h => by
      have := (rev_lk h1).2 h
      simp only [σ2, this]
    have hold : ∀ g, g ∉ newsN φ ν → σ2 g = σ g := fun g hg => by
      simp only [σ2]
      split
      · rename_i k hk
        rcases back_cases hb ((rev_lk h1).1 hk) with ⟨h2, h3⟩ | ⟨_, h2⟩
        · have := hI'.keep k h3
          rw [this]
          show newσ φ σ k = σ g
          exact newσ_src (by simp [whence, h2])
        · exact absurd h2 hg
      · rfl
    obtain ⟨Z2, hZ2, hz1, hz2, hz3⟩ : ∃ Z2 : Nat → Prop, (L = true ∨ ∀ b, Z' b → Z2 b) ∧ (∀ b, Z b → Z2 b) ∧ (∀ b, Z2 b → Z' b) ∧ (∀ b, Z2 b → Z b ∨ Mine ownC (newσ φ σ) b ∨ w.heap.size ≤ b ∨ ∃ g ob, g ∈ dropF L F ∧ lk s2.own g = some ob ∧ blk (σ g) = some b) := by
      cases L with
      | true => exact ⟨Z, .inl rfl, fun _ h => h, fun b hz => hI'.zold b (.inl hz), fun _ h => .inl h⟩
      | false =>
        refine ⟨Z', .inr fun _ h => h, fun b hz => hI'.zold b (.inl hz), fun _ h => h, fun b hz => ?_⟩
        rcases hI'.znew b hz with h2 | h2 | h2
        · rcases h2 with h2 | ⟨g, ob, hF, hg, hb'⟩
          · exact .inl h2
          · exact .inr (.inr (.inr ⟨g, ob, by simpa [dropF] using hF, hg, hb'⟩))
        · exact .inr (.inl h2)
        · exact .inr (.inr (.inl h2))
    have hA' : ∀ g ob', lk A g = some ob' → ∃ k ob, lk ν k = some g ∧ lk own0 k = some ob ∧ OB.Rn L ν ob ob' := fun g ob' h => hA.lk h1 h
    have hlk : ∀ g ob, lk (A ++ rest (srcsN φ ++ vals ν ++ dropF L F) s2.own) g = some ob → (lk A g = some ob) ∨ (lk A g = none ∧ (g ∉ srcsN φ ∧ g ∉ dropF L F) ∧ g ∉ vals ν ∧ lk s2.own g = some ob) := by
      intro g ob h
      rw [lk_append] at h
      split at h
      · rename_i x hx; obtain rfl := Option.some.inj h; exact .inl hx
      · rename_i hx
        rw [lk_rest] at h
        split at h
        · cases h
        · rename_i hn; simp only [List.mem_append, not_or] at hn; exact .inr ⟨hx, ⟨hn.1.1, hn.2⟩, hn.1.2, h⟩
    have hnv : ∀ g, g ∉ vals ν → σ2 g = σ g := fun g hg => by
      simp only [σ2]
      split
      · rename_i k hk; exact absurd (vals_mem ((rev_lk h1).1 hk)) hg
      · rfl
    have hmA : ∀ g ob b, lk A g = some ob → blk (σ2 g) = some b → (C.O0 b ∨ C.w0.heap.size ≤ b) ∧ ¬ Z2 b ∧ b < w'.heap.size ∧ (Mine ownC (newσ φ σ) b ∨ w.heap.size ≤ b) := by
      intro g ob' b hg hb'
      obtain ⟨k, ob, hk, hok, _⟩ := hA' g ob' hg
      rw [hσ2 k g hk] at hb'
      obtain ⟨m1, m2, m3⟩ := hI'.mine k ob b hok hb'
      refine ⟨?_, fun hz => m2 (hz2 b hz), m3, m1⟩
      rcases m1 with h | h
      · obtain ⟨g0, ob0, _, h3, h4⟩ := hmineC b h
        exact (hI.mine g0 ob0 b h3 h4).1
      · exact .inr (Nat.le_trans hI.size h)
    have hmH : ∀ g ob b, g ∉ srcsN φ → lk s2.own g = some ob → blk (σ g) = some b → ¬ Mine ownC (newσ φ σ) b := by
      intro g ob b hng hg hb' hm
      obtain ⟨g0, ob0, h2, h3, h4⟩ := hmineC b hm
      have := hI.inj g g0 ob ob0 b hg h3 hb' h4
      subst this
      exact hng h2
    have hInv : Inv C (A ++ rest (srcsN φ ++ vals ν ++ dropF L F) s2.own) σ2 Z2 w' := by
      refine ⟨hI'.os.trans hI.os, hI'.tape.trans hI.tape, hI'.output.trans hI.output, Nat.le_trans hI.size hI'.size, Nat.le_trans hI.drawn hI'.drawn, fun b hb1 hb2 => ?_, fun b hz => hI'.zlt b (hz2 b hz), fun b hz => hz1 b (hI.zold b hz), fun b hz => ?_, fun g ob hg => ?_, fun g ob b hg hb' => ?_, fun g g' ob ob' b hg hg' hbg hbg' => ?_, fun g hg => ?_⟩
      · refine (hkeepB b (Nat.lt_of_lt_of_le hb1 hI.size) fun hm => ?_).trans (hI.frame b hb1 hb2)
        obtain ⟨g0, ob0, _, h3, h4⟩ := hmineC b hm
        rcases (hI.mine g0 ob0 b h3 h4).1 with h | h
        · exact hb2 h
        · omega
      · rcases hz3 b hz with h | h | h | ⟨g0, ob0, _, h3, h4⟩
        · exact hI.znew b h
        · obtain ⟨g0, ob0, _, h3, h4⟩ := hmineC b h
          exact .inr (hI.mine g0 ob0 b h3 h4).1
        · exact .inr (.inr (Nat.le_trans hI.size h))
        · exact .inr (hI.mine g0 ob0 b h3 h4).1
      · rcases hlk g ob hg with h | ⟨h, ⟨hns, hnd⟩, hnv', hg2⟩
        · obtain ⟨k, ob0, hk, hok, hrn⟩ := hA' g ob h
          rw [hσ2 k g hk]
          exact hrn.rep hZ2 hσ2 (hI'.has k ob0 hok)
        · rw [hnv g hnv']
          refine (hI.has g ob hg2).mono hkeep hz1 (fun k hk => hold k fun hkn => ?_) (fun b hb' => hkeepB b (hI.mine g ob b hg2 hb').2.2 (hmH g ob b hns hg2 hb'))
          rw [(hf2 k hkn).2 g ob hg2] at hk
          cases hk
      · rcases hlk g ob hg with h | ⟨h, ⟨hns, hnd⟩, hnv', hg2⟩
        · obtain ⟨m1, m2, m3, _⟩ := hmA g ob b h hb'
          exact ⟨m1, m2, m3⟩
        · rw [hnv g hnv'] at hb'
          have hm := hI.mine g ob b hg2 hb'
          refine ⟨hm.1, fun hz => ?_, Nat.lt_of_lt_of_le hm.2.2 hI'.size⟩
          rcases hz3 b hz with h2 | h2 | h2 | ⟨g0, ob0, h2, h3, h4⟩
          · exact hm.2.1 h2
          · exact hmH g ob b hns hg2 hb' h2
          · have := hm.2.2; omega
          · have := hI.inj g g0 ob ob0 b hg2 h3 hb' h4
            subst this
            exact hnd h2
      · have cross : ∀ g g' ob ob', lk A g = some ob → g' ∉ srcsN φ → g' ∉ vals ν → lk s2.own g' = some ob' → blk (σ2 g) = some b → blk (σ2 g') = some b → False := by
          intro g g' ob ob' hg hns hnv' hg' hb1 hb2
          rw [hnv g' hnv'] at hb2
          rcases (hmA g ob b hg hb1).2.2.2 with h | h
          · exact hmH g' ob' b hns hg' hb2 h
          · have := (hI.mine g' ob' b hg' hb2).2.2; omega
        rcases hlk g ob hg with h | ⟨h, ⟨hns, _⟩, hnv', hg2⟩
        · rcases hlk g' ob' hg' with h' | ⟨h', ⟨hns', _⟩, hnv2, hg2'⟩
          · obtain ⟨k, ob0, hk, hok, _⟩ := hA' g ob h
            obtain ⟨k', ob0', hk', hok', _⟩ := hA' g' ob' h'
            rw [hσ2 k g hk] at hbg
            rw [hσ2 k' g' hk'] at hbg'
            have := hI'.inj k k' _ _ b hok hok' hbg hbg'
            subst this
            rw [hk] at hk'
            exact Option.some.inj hk'
          · exact (cross g g' ob ob' h hns' hnv2 hg2' hbg hbg').elim
        · rcases hlk g' ob' hg' with h' | ⟨h', ⟨hns', _⟩, hnv2, hg2'⟩
          · exact (cross g' g ob' ob h' hns hnv' hg2 hbg' hbg).elim
          · rw [hnv g hnv'] at hbg
            rw [hnv g' hnv2] at hbg'
            exact hI.inj g g' _ _ b hg2 hg2' hbg hbg'
      · simp only [σ2]
        split
        · rename_i k hk
          rcases back_cases hb ((rev_lk h1).1 hk) with ⟨h2, h3⟩ | ⟨h2, _⟩
          · rw [hI'.keep k h3]
            show newσ φ σ k = C.σ0 g
            rw [newσ_src (show whence φ k = .id g by simp [whence, h2])]
            exact hI.keep g hg
          · omega
        · exact hI.keep g hg
    apply hK
    have hInv' : Inv C s2'.own σ2 Z2 w' := hInv.same fun g => by rw [hi.2, hD]
    refine ⟨(put_defers ..).trans q1, by simp [Act.put, hd, q2], σ2, Z2, hInv', ?_⟩
    have htt : Temps σ2 Z2 w' ((d, r') :: s2.t) (a.tmps.setIfInBounds d v) := by
      refine Temps.put (ht.mono hkeep hz1 fun j x hj g hgx => hold g fun hgn => ?_) (by omega) (hr.rep hZ2 hσ2 hrv)
      rw [(hf2 g hgn).1 j x hj] at hgx
      cases hgx
    simp only [Act.put, hd]
    exact fun j x hj => htt j x (by rw [hi.1] at hj; exact hj)
  · have hg : g ∉ vals ν := fun h => by
      rcases hvals g h with h | h
      · exact e4 (List.mem_append_left _ h)
      · exact e3 h
    refine ⟨fun q hq => by obtain rfl := Option.some.inj hq; exact hr.refs hg, fun k ob hk => ?_⟩
    simp only [D, lk_append, lk_mapSome, hDn] at hk
    cases e : lk A k with
    | none =>
      rw [e] at hk
      simp only [Option.map_none] at hk
      split at hk <;> simp at hk
    | some x =>
      rw [e] at hk
      simp at hk
      subst hk
      obtain ⟨k0, ob0, _, _, hrn⟩ := hA.lk h1 e
      cases hrn with
      | row h => exact h.refs hg
      | box h => exact h.refs hg
  · simp only [D, lk_append, lk_mapSome, hDn] at hk
    cases e : lk A k with
    | none =>
      rw [e] at hk
      simp only [Option.map_none] at hk
      split at hk
      · rename_i hm
        rcases List.mem_append.1 hm with h | h
        · rcases List.mem_append.1 h with h | h
          · exact List.mem_append_left _ (List.mem_append_left _ h)
          · rcases hvals k h with h | h
            · exact List.mem_append_left _ (List.mem_append_left _ h)
            · exact List.mem_append_left _ (List.mem_append_right _ h)
        · exact List.mem_append_right _ h
      · cases hk
    | some x =>
      obtain ⟨k0, ob0, hk0, _, _⟩ := hA.lk h1 e
      rcases hvals k (vals_mem hk0) with h | h
      · exact List.mem_append_left _ (List.mem_append_left _ h)
      · exact List.mem_append_left _ (List.mem_append_right _ h)
theorem Ops.callO {l : List Oper} {fps : List Fp} {K : St → Prop} {t : List (Nat × AV)} {H H1 : Own} {f : Operand} {args : Array Operand} {ts : Array TypeId} {fid : FuncId} {cs as0 as : List AV} {r r' : AV} {ownC own' A : Own} (φ : List (Nat × Whence)) (F : List Nat) (ν : List (Nat × Nat)) (L : Bool)
    (hg : o.guard = none) (hd : o.dst = some d) (hn : Nat.blt d n = true) (hop : o.op = .call { callee := .value f, args := args, argTypes := ts }) (hf : evO t f = some (.fn fid cs)) (hev : evL t args.toList = some as0) (hC : FunO P fid as ownC r own') (hto : AV.ToL φ F H (as0 ++ cs) as) (hoc : toH φ F H ownC)
    (hgv : givenB φ ownC = true) (hsrc : srcsB φ F ownC = true) (hr : AV.Rn L ν r r') (hA : OwnRn L ν own' A) (h1 : oneB ν = true) (hb : backB φ ν = true) (hfr : (newsN φ ν).all (fun g => noRefT g t && noRefH g H) = true) (hrest : rest (srcsN φ ++ vals ν ++ dropF L F) H = H1)
    (hK : OpsL P T n ops (i + 1) l fps K ⟨(d, r') :: t, A ++ H1⟩) : OpsL P T n ops i (o :: l) (⟨srcsN φ ++ F, srcsN φ ++ newsN φ ν ++ dropF L F, newsN φ ν⟩ :: fps) K ⟨t, H⟩ := by
  subst hrest
  refine ⟨_, _, rfl, fun ho => ⟨_, Step.callO (st := ⟨t, H⟩) (L := L) ho hg hd (by simpa [Nat.blt_eq] using hn) hop (evO_ev (st := ⟨t, H⟩) hf) (by rw [evL_ev (st := ⟨t, H⟩) hev]; exact hto) hoc hgv hsrc hC hr hA h1 hb (fun g hg => ?_), hK.out⟩⟩
  have := List.all_eq_true.1 hfr g hg
  simp only [Bool.and_eq_true] at this
  exact ⟨noT_of this.1, noH_of this.2⟩
end
mutual
def AV.phi : AV → AV → List (Nat × Whence)
  | .osl g, .osl k => [(k, .id g)]
  | .nil, .osl k => [(k, .nil)]
  | .osb g _ n _, .osl k => [(k, .cut g n)]
  | .optr g _, .optr k _ => [(k, .id g)]
  | .agg as, .agg bs => AV.phiL as bs
  | .tup as, .tup bs => AV.phiL as bs
  | .fn _ as, .fn _ bs => AV.phiL as bs
  | _, _ => []
def AV.phiL : List AV → List AV → List (Nat × Whence)
  | a :: as, b :: bs => AV.phi a b ++ AV.phiL as bs
  | _, _ => []
end
mutual
def AV.lent : AV → AV → List Nat
  | .osl g, .fv _ => [g]
  | .osb g _ _ _, .fv _ => [g]
  | .optr g _, .fptr _ => [g]
  | .agg as, .agg bs => AV.lentL as bs
  | .tup as, .tup bs => AV.lentL as bs
  | .fn _ as, .fn _ bs => AV.lentL as bs
  | _, _ => []
def AV.lentL : List AV → List AV → List Nat
  | a :: as, b :: bs => AV.lent a b ++ AV.lentL as bs
  | _, _ => []
end
def phiO (H : Own) : List (Nat × Whence) → Own → List (Nat × Whence)
  | φ, [] => φ
  | φ, (k, .box _ cs) :: l => match lk φ k with
    | some (.id g) => match lk H g with
      | some (.box _ c0) => phiO H (φ ++ AV.phiL c0 cs) l
      | _ => phiO H φ l
    | _ => phiO H φ l
  | φ, (_, .row _ _ _ _) :: l => phiO H φ l
def lentO (H : Own) (φ : List (Nat × Whence)) : List Nat → Own → List Nat
  | F, [] => F
  | F, (k, .box _ cs) :: l => match lk φ k with
    | some (.id g) => match lk H g with
      | some (.box _ c0) => lentO H φ (F ++ AV.lentL c0 cs) l
      | _ => lentO H φ F l
    | _ => lentO H φ F l
  | F, (_, .row _ _ _ _) :: l => lentO H φ F l
def nuA (φ : List (Nat × Whence)) : Nat → Own → List (Nat × Nat)
  | _, [] => []
  | d, (k, _) :: l => match lk φ k with
    | some (.id g) => (k, g) :: nuA φ d l
    | _ => (k, d) :: nuA φ (d + 300) l
def freeNs : List Nat → List (Nat × AV) → Own → Bool
  | [], _, _ => true
  | g :: l, t, H => noRefT g t && noRefH g H && freeNs l t H
theorem freeNs_all : ∀ {N : List Nat} {t : List (Nat × AV)} {H : Own}, freeNs N t H = true → N.all (fun g => noRefT g t && noRefH g H) = true
  | [], _, _, _ => rfl
  | g :: l, t, H, h => by
    simp only [freeNs, Bool.and_eq_true] at h
    simp only [List.all_cons, Bool.and_eq_true]
    exact ⟨h.1, freeNs_all h.2⟩
section
variable {P : Program} {T : Tbl} {n i : Nat} {ops : Array Oper} {o : Oper} {d : Nat}
theorem Ops.callA (L : Bool) {l : List Oper} {fps : List Fp} {K : St → Prop} {t : List (Nat × AV)} {H H1 : Own} {N : List Nat} {f : Operand} {args : Array Operand} {ts : Array TypeId} {fid : FuncId} {cs as0 as : List AV} {r r' : AV} {ownC own' A : Own}
    (hg : o.guard = none) (hd : o.dst = some d) (hn : Nat.blt d n = true) (hop : o.op = .call { callee := .value f, args := args, argTypes := ts }) (hf : evO t f = some (.fn fid cs)) (hev : evL t args.toList = some as0) (hC : FunO P fid as ownC r own')
    (hto : AV.ToL (phiO H (AV.phiL (as0 ++ cs) as) ownC) (lentO H (phiO H (AV.phiL (as0 ++ cs) as) ownC) (AV.lentL (as0 ++ cs) as) ownC) H (as0 ++ cs) as) (hoc : toH (phiO H (AV.phiL (as0 ++ cs) as) ownC) (lentO H (phiO H (AV.phiL (as0 ++ cs) as) ownC) (AV.lentL (as0 ++ cs) as) ownC) H ownC)
    (hgv : givenB (phiO H (AV.phiL (as0 ++ cs) as) ownC) ownC = true) (hsrc : srcsB (phiO H (AV.phiL (as0 ++ cs) as) ownC) (lentO H (phiO H (AV.phiL (as0 ++ cs) as) ownC) (AV.lentL (as0 ++ cs) as) ownC) ownC = true)
    (hr : AV.Rn L (nuA (phiO H (AV.phiL (as0 ++ cs) as) ownC) d own') r r') (hA : OwnRn L (nuA (phiO H (AV.phiL (as0 ++ cs) as) ownC) d own') own' A)
    (h1 : oneB (nuA (phiO H (AV.phiL (as0 ++ cs) as) ownC) d own') = true) (hb : backB (phiO H (AV.phiL (as0 ++ cs) as) ownC) (nuA (phiO H (AV.phiL (as0 ++ cs) as) ownC) d own') = true)
    (hN : newsN (phiO H (AV.phiL (as0 ++ cs) as) ownC) (nuA (phiO H (AV.phiL (as0 ++ cs) as) ownC) d own') = N) (hfr : freeNs N t H = true) (hH1 : A ++ rest (srcsN (phiO H (AV.phiL (as0 ++ cs) as) ownC) ++ vals (nuA (phiO H (AV.phiL (as0 ++ cs) as) ownC) d own') ++ dropF L (lentO H (phiO H (AV.phiL (as0 ++ cs) as) ownC) (AV.lentL (as0 ++ cs) as) ownC)) H = H1)
    (hK : OpsL P T n ops (i + 1) l fps K ⟨(d, r') :: t, H1⟩) :
    OpsL P T n ops i (o :: l) (⟨srcsN (phiO H (AV.phiL (as0 ++ cs) as) ownC) ++ lentO H (phiO H (AV.phiL (as0 ++ cs) as) ownC) (AV.lentL (as0 ++ cs) as) ownC, srcsN (phiO H (AV.phiL (as0 ++ cs) as) ownC) ++ N ++ dropF L (lentO H (phiO H (AV.phiL (as0 ++ cs) as) ownC) (AV.lentL (as0 ++ cs) as) ownC), N⟩ :: fps) K ⟨t, H⟩ := by
  subst hN hH1
  exact Ops.callO _ _ _ _ hg hd hn hop hf hev hC hto hoc hgv hsrc hr hA h1 hb (freeNs_all hfr) rfl hK
end
end Go.Proofs.YtmidechdlbcepaaGreat

namespace Go.Proofs.YtmidechdlbcepaaGreat
open Go.RowKit

def strFV (s : ByteArray) : List FV := s.data.toList.flatMap encB
theorem strFV_rep {σ : Nat → Value} {Z : Nat → Prop} {w : World} (s : ByteArray) : AV.RepL σ Z w ((strFV s).map .fv) (Go.Lib.strCells s) := by
  unfold strFV Go.Lib.strCells
  generalize s.data.toList = l
  induction l with
  | nil => trivial
  | cons b l ih => exact ⟨rfl, ih⟩
theorem setC_mk : ∀ {cs : List AV} {off : Nat} {us : List AV}, off + us.length ≤ cs.length → setC cs off us = some (cs.take off ++ us ++ cs.drop (off + us.length))
  | cs, 0, [], _ => by cases cs <;> simp [setC]
  | c :: cs, 0, u :: us, h => by
    have ih := setC_mk (cs := cs) (off := 0) (us := us) (by simp at h ⊢; omega)
    simp only [setC, ih]
    simp
  | c :: cs, n + 1, us, h => by
    have ih := setC_mk (cs := cs) (off := n) (us := us) (by simp at h ⊢; omega)
    simp only [setC, ih]
    rw [show n + 1 + us.length = (n + us.length) + 1 from by omega]
    simp
  | [], 0, _ :: _, h => by simp at h
  | [], n + 1, _, h => by simp at h

section
variable {P : Program} {T : Tbl} {n i : Nat} {ops : Array Oper} {st : St} {o : Oper} {d : Nat}
theorem appS_sem {t u e k : Nat} {s : ByteArray} {x y : Operand} {cs : List AV} {H' : Own} (hT : T.Ok P) (ho : ops[i]? = some o) (hg : o.guard = none) (hd : o.dst = some d) (hn : d < n) (hop : o.op = .call { callee := .builtin .append, args := #[x, y], argTypes := #[t, u] }) (ht' : lk T.sli t = some (e, 1, 1)) (hbt : lk T.byt e = some ()) (hu : lk T.str u = some ())
    (hB : ABase st.own e 1 (st.ev x) k cs H') (hy : st.ev y = .fv (.str s)) (h47 : k + s.size ≤ 140737488355328) (hf : Fresh st [(d, .row e 1 (k + s.size) (cs ++ (strFV s).map .fv))]) : OpSem P n ops i st ⟨(d, .osl d) :: st.t, (d, .row e 1 (k + s.size) (cs ++ (strFV s).map .fv)) :: H'⟩ := by
  rintro C a w K Q ⟨h1, h2, σ, Z, hI, ht⟩ hK
  obtain ⟨hlow, hnT, hnH⟩ := hf (d, .row e 1 (k + s.size) (cs ++ (strFV s).map .fv)) (by simp)
  obtain ⟨hut, _⟩ := sliT_spec (tbl_lk hT.sli ht')
  obtain ⟨i', hi1, hi2, hi3, hi4⟩ := bytT_spec (tbl_lk hT.byt hbt)
  have hus := strT_spec (tbl_lk hT.str hu)
  have hyv : a.eval y = .string s := by have := ev_rep ht y; rw [hy] at this; exact this.1
  have hbase : ∃ v xs, a.eval x = v ∧ rowZ w e 1 v k xs ∧ AV.RepL σ Z w cs xs ∧ AV.refsL d cs = false ∧ (∀ b, blk v = some b → (C.O0 b ∨ C.w0.heap.size ≤ b) ∧ ¬ Z b) ∧ (∀ i x, lk H' i = some x → lk st.own i = some x ∧ ∀ b, blk (σ i) = some b → some b ≠ blk v) := by
    have hxr := ev_rep ht x
    generalize st.ev x = ax at hB hxr
    cases hB with
    | nil =>
      refine ⟨.slice none 0 0, [], hxr, ⟨by simp, .inl ⟨rfl, none, rfl⟩⟩, trivial, rfl, ?_, ?_⟩
      · intro b hb
        cases hb
      · intro i x hi
        exact ⟨hi, fun b _ h => by cases h⟩
    | @own g _ _ _ hg' hrm =>
      obtain ⟨hv, _⟩ := hxr
      obtain ⟨xs, ho1, ho2⟩ := hI.has g _ hg'
      refine ⟨σ g, xs, hv, ho1, ho2, hnH _ (.row e 1 k cs) hg', fun b hb => ?_, fun i x hi => ?_⟩
      · have := hI.mine g _ b hg' hb
        exact ⟨this.1, this.2.1⟩
      · obtain ⟨h1, h2⟩ := hrm.lk i x hi
        exact ⟨h2, fun b hb e' => h1 (hI.inj i g x _ b h2 hg' hb e'.symm)⟩
  obtain ⟨v, xs, hxv, hown, hcr, hcref, hmine, hsub⟩ := hbase
  obtain ⟨v', w', hrun, hown', hgr, hdr, hbv⟩ := run_appS (P := P) w (ty := o.type) hut hus hi1 hi2 hi3 hi4 s (by unfold maxLen; omega) h47 hown
  unfold wpOp
  simp only [ho]
  rw [if_pos (by simp [Region.wanted, hg])]
  refine .inl (wp_val (v := v') (w' := w') (by simp [execOp, hop, resolve, invoke, builtin, hxv, hyv, hrun]) ?_)
  have hkeep : Keeps Z w w' := fun b hb => hgr.block b (hI.zlt b hb) (fun e => (hmine b e.symm).2 hb)
  have hv' : ∃ A n c, v' = .slice A n c := by
    rcases hown'.2 with ⟨_, A, e⟩ | ⟨_, _, _, e, _⟩ <;> exact ⟨_, _, _, e⟩
  have hrefs : AV.refsL d (cs ++ (strFV s).map .fv) = false := refsL_append hcref (refsL_fv _)
  have hrep : AV.RepL (upd σ d v') Z w' (cs ++ (strFV s).map .fv) (xs ++ Go.Lib.strCells s) := AV.RepL.mono hkeep (fun _ h => h) (refsL_upd v' hrefs) (hcr.append (strFV_rep s))
  obtain ⟨hI', _⟩ := hI.append (d := d) (v' := v') (ob := .row e 1 (k + s.size) (cs ++ (strFV s).map .fv)) hlow hnH hsub hmine hgr hdr hbv ⟨_, hown', hrep⟩
  apply hK
  refine ⟨(put_defers ..).trans h1, by simp [Act.put, hd, h2], _, Z, hI', ?_⟩
  simp only [Act.put, hd]
  refine Temps.put (ht.mono hkeep (fun _ h => h) (fun i a hi => refs_upd v' (hnT _ _ hi))) (by omega) ⟨by rw [upd_hit], hv'⟩
theorem OpSem.eqv {s s1 s2 : St} (h : OpSem P n ops i s s1) (he : Eqv s1 s2) : OpSem P n ops i s s2 := fun C a w K Q hr hK => h C a w K Q hr fun a' w' hr' => hK a' w' (he.rel hr')
theorem hNone (N : List Nat) (g : Nat) : lk (N.map fun g => (g, (none : Option OB))) g = if g ∈ N then some none else none := by
  induction N with
  | nil => simp [lk]
  | cons a N ih =>
    simp only [List.map_cons, lk_cons, ih]
    by_cases h : a = g
    · subst h; simp
    · simp [h, Ne.symm h]
theorem Step.appS {t u e k : Nat} {s : ByteArray} {x y : Operand} {cs : List AV} {H' : Own} (ho : ops[i]? = some o) (hg : o.guard = none) (hd : o.dst = some d) (hn : d < n) (hop : o.op = .call { callee := .builtin .append, args := #[x, y], argTypes := #[t, u] }) (ht' : lk T.sli t = some (e, 1, 1)) (hbt : lk T.byt e = some ()) (hu : lk T.str u = some ())
    (hB : ABase st.own e 1 (st.ev x) k cs H') (hy : st.ev y = .fv (.str s)) (h47 : k + s.size ≤ 140737488355328) (hf : Fresh st [(d, .row e 1 (k + s.size) (cs ++ (strFV s).map .fv))]) :
    Step P T n ops i ⟨baseN (st.ev x), d :: baseN (st.ev x), [d]⟩ st ⟨(d, .osl d) :: st.t, (d, .row e 1 (k + s.size) (cs ++ (strFV s).map .fv)) :: H'⟩ := by
  intro hT
  obtain ⟨hlow, hnT, hnH⟩ := hf (d, .row e 1 (k + s.size) (cs ++ (strFV s).map .fv)) (by simp)
  have hbase : ∀ s2 : St, s2.ev x = st.ev x → (∀ g ∈ baseN (st.ev x), lk s2.own g = lk st.own g) → ABase s2.own e 1 (s2.ev x) k cs (appD ((baseN (st.ev x)).map fun g => (g, none)) s2.own) := by
    intro s2 hx hl
    rw [hx]
    generalize st.ev x = ax at hB hl
    cases hB with
    | nil => exact .nil
    | @own g _ _ _ hg _ => exact .own ((hl g (by simp [baseN])).trans hg) (rmv_p g _)
  have hH' : ∀ g, lk H' g = lk (appD ((baseN (st.ev x)).map fun g => (g, none)) st.own) g := by
    intro g
    generalize st.ev x = ax at hB
    cases hB with
    | nil => rfl
    | @own g0 _ _ _ hg hr =>
      simp only [baseN, List.map_cons, List.map_nil, appD]
      rw [lk_rmv]
      split
      · rename_i e; subst e; exact hr.1
      · rename_i e; exact hr.2 g (Ne.symm e)
  refine ⟨o, some (d, .osl d), (d, some (.row e 1 (k + s.size) (cs ++ (strFV s).map .fv))) :: (baseN (st.ev x)).map fun g => (g, none), ho, ⟨fun s2 s2' e1 e2 hf2 hi => ?_, fun g e1 e2 e3 _ => ?_, fun q hq => (by obtain rfl := Option.some.inj hq; exact hd), fun q z hk => ?_, fun g hg => (by simp at hg; simp [hg])⟩, fun g hg => ?_, ⟨fun _ => rfl, fun g => ?_⟩⟩
  · have he := ev_looks (st := st) (st' := s2) e1
    rw [hop] at he
    have hx := he x (by simp [Op.operands, Call.operands])
    have hy' := he y (by simp [Op.operands, Call.operands])
    refine (appS_sem hT ho hg hd hn hop ht' hbt hu (hbase s2 hx e2) (hy'.trans hy) h47 (fun p hp => by simp at hp; subst hp; exact ⟨hlow, hf2 d (by simp)⟩)).eqv ⟨fun j => hi.1 j, fun g => ?_⟩
    rw [hi.2, eff_cons, lk_cons, lk_app]
  · have h13 := ev_looks_refs e1
    rw [hop] at h13
    have hx := h13 x (by simp [Op.operands, Call.operands])
    refine ⟨fun q hq => ?_, fun q ob hk => ?_⟩
    · obtain rfl := Option.some.inj hq
      simp only [AV.refs]
      cases e : Nat.beq d g with
      | false => rfl
      | true => exact absurd (Nat.eq_of_beq_eq_true e) (by intro e; subst e; simp at e3)
    · rw [lk_cons, hNone] at hk
      split at hk
      · simp only [Option.some.injEq] at hk
        subst hk
        refine refsL_append ?_ (refsL_fv _)
        generalize st.ev x = ax at hB hx e2
        cases hB with
        | nil => rfl
        | @own g0 _ _ _ hg _ => exact e2 g0 (by simp [baseN]) _ hg
      · split at hk <;> simp at hk
  · rw [lk_cons, hNone] at hk
    split at hk
    · rename_i e; subst e; simp
    · split at hk
      · rename_i h; simp [h]
      · cases hk
  · simp at hg
    subst hg
    exact ⟨hnT, hnH⟩
  · show lk ((d, _) :: H') g = _
    rw [eff_cons, lk_cons, hH', lk_app]

theorem Ops.appS {l : List Oper} {fps : List Fp} {K : St → Prop} {t : List (Nat × AV)} {H H' : Own} {ty u e k : Nat} {s : ByteArray} {x y : Operand} {ax : AV} {cs : List AV} (hg : o.guard = none) (hd : o.dst = some d) (hn : Nat.blt d n = true) (hop : o.op = .call { callee := .builtin .append, args := #[x, y], argTypes := #[ty, u] }) (hty : lk T.sli ty = some (e, 1, 1)) (hbt : lk T.byt e = some ()) (hu : lk T.str u = some ())
    (hx : evO t x = some ax) (hy : evO t y = some (.fv (.str s))) (hB : ABase H e 1 ax k cs H') (h47 : k + s.size ≤ 140737488355328) (hf : freshB ⟨t, H⟩ [(d, .row e 1 (k + s.size) (cs ++ (strFV s).map .fv))] = true) (hK : OpsL P T n ops (i + 1) l fps K ⟨(d, .osl d) :: t, (d, .row e 1 (k + s.size) (cs ++ (strFV s).map .fv)) :: H'⟩) :
    OpsL P T n ops i (o :: l) (⟨baseN ax, d :: baseN ax, [d]⟩ :: fps) K ⟨t, H⟩ :=
  ⟨_, _, rfl, fun ho => ⟨_, by
    have e1 := evO_ev (st := ⟨t, H⟩) hx
    have := Step.appS (P := P) (T := T) (n := n) (st := ⟨t, H⟩) (d := d) (k := k) (cs := cs) ho hg hd (by simpa [Nat.blt_eq] using hn) hop hty hbt hu (by rw [e1]; exact hB) (evO_ev (st := ⟨t, H⟩) hy) h47 (freshB_mem hf)
    rw [e1] at this
    exact this, hK.out⟩⟩
end
theorem FunO.body {P : Program} {T : Tbl} {f : FuncId} {fn : Func} {c : Code} {n : Nat} {args : List AV} {own own' : Own} {r : AV} (hT : T.Ok P) (hf : P.funcs[f]? = some fn) (hb : fn.body = some c) (hen : enterB P f = true) (hn : fn.ntmps = n) (hargs : Nat.ble args.length n = true) {rvs : List ResultVar} (hrv : fn.results.toList = rvs)
    (h : WP P n c (Post T rvs fun r' o' => r' = r ∧ o' = own') ⟨argT 0 args, own⟩) : FunO P f args own r own' := Triple.body hT hf hb hen hn hargs hrv h
theorem Post.ofO {T : Tbl} {rvs : List ResultVar} {r : AV} {own' : Own} {e : Exit} {s s' : St} {rs : List AV} (he : e = .ret ∨ e = .normal) (hle : St.Le s s') (h1 : retL T s' rvs = some rs) (h2 : retA rs = r) (h3 : s'.own = own') : Post T rvs (fun r' o' => r' = r ∧ o' = own') e s := by
  rcases he with rfl | rfl <;> exact ⟨s', hle, rs, h1, h2, h3⟩
theorem FunO.froz {P : Program} {f : FuncId} {args : List AV} {own' : Own} {r r' : AV} (F : List Nat) (h : FunO P f args [] r own') (hr : AV.To [] F own' r r') : Fun P f args r' := by
  refine ⟨h.1, fun σ Z w vs hI hrep => (h.2 σ Z w vs hI hrep).mono ?_⟩
  rintro e w' ⟨v, r0, own0, σ', Z', rfl, ⟨rfl, rfl⟩, hI', hr'⟩
  have hv := hr.rep hI' hr'
  refine ⟨v, r', [], _, _, rfl, ⟨rfl, rfl⟩, ⟨hI'.os, hI'.tape, hI'.output, hI'.size, hI'.drawn, hI'.frame, fun b hb => ?_, fun b hb => .inl (hI'.zold b hb), fun b hb => ?_, fun g ob h => by simp [lk] at h, fun g ob b h => by simp [lk] at h, fun g g' ob ob' b h => by simp [lk] at h, fun g hg => hI'.keep g hg⟩, hv⟩
  · rcases hb with h | ⟨g, ob, _, hg, hb⟩
    · exact hI'.zlt b h
    · exact (hI'.mine g ob b hg hb).2.2
  · rcases hb with h | ⟨g, ob, _, hg, hb⟩
    · exact hI'.znew b h
    · exact .inr (hI'.mine g ob b hg hb).1
def fillS (place : Nat → Option (Nat × Nat)) : List AV → List (Nat × List AV) → Option (List AV)
  | cs, [] => some cs
  | cs, (i, us) :: rest => match place i with
    | some (off, size) => match Nat.beq us.length size with
      | true => match setC cs off us with
        | some cs' => fillS place cs' rest
        | none => none
      | false => none
    | none => none
theorem fillS_eq {place : Nat → Option (Nat × Nat)} : ∀ {l : List (Nat × List AV)} {cs r : List AV}, fillS place cs l = some r → fillA place cs l = some r
  | [], _, _, h => h
  | (i, us) :: rest, cs, r, h => by
    unfold fillS at h
    unfold fillA
    split at h
    · rename_i off size hp
      split at h
      · rename_i hb
        split at h
        · rename_i cs' hs
          obtain ⟨h1, h2⟩ := setC_eq hs
          have e := Nat.eq_of_beq_eq_true hb
          rw [hp]
          dsimp only
          rw [hb, Nat.ble_eq_true_of_le (show off + size ≤ cs.length by omega)]
          dsimp only
          rw [← e, ← h2]
          exact fillS_eq h
        · cases h
      · cases h
    · cases h
section
variable {T : Tbl} {ρ : Operand → AV} {H : Own} {d : Nat}
theorem Eff.buildS {t : Nat} {parts : Array (Nat × Operand)} {zs cs : List AV} {pl : List (Nat × Nat)} {us : List (Nat × List AV)} (h1 : lk T.zero t = some zs) (h2 : lk T.plc t = some pl) (h3 : cellsL ρ parts.toList = some us) (h4 : fillS (pl[·]?) zs us = some cs) : Eff T ρ H d (.build t parts) (.agg cs) [] :=
  .build h1 h2 h3 (fillS_eq h4)
theorem Eff.bsliceS {t n e s b : Nat} {parts : Array (Nat × Operand)} {zs cs : List AV} {us : List (Nat × List AV)} (h1 : lk T.sli t = some (e, s, b)) (h2 : lk T.zero e = some zs) (h3 : cellsL ρ parts.toList = some us) (h4 : fillS (fun i => some (i * s, s)) ((List.replicate n zs).flatten) us = some cs) (h5 : Nat.ble (n * s) 100000 = true) : Eff T ρ H d (.buildSlice t n parts) (.osl d) [(d, .row e s n cs)] :=
  .bslice h1 h2 h3 (fillS_eq h4) h5
theorem Eff.bsliceFS {t n e s b : Nat} {parts : Array (Nat × Operand)} {zs cs : List AV} {us : List (Nat × List AV)} {fs : List FV} (h1 : lk T.sli t = some (e, s, b)) (h2 : lk T.zero e = some zs) (h3 : cellsL ρ parts.toList = some us) (h4 : fillS (fun i => some (i * s, s)) ((List.replicate n zs).flatten) us = some cs) (h5 : Nat.ble (n * s) 100000 = true) (h6 : plainL cs = some fs) : Eff T ρ H d (.buildSlice t n parts) (.fv (.sl fs n)) [] :=
  .bsliceF h1 h2 h3 (fillS_eq h4) h5 h6
end
end Go.Proofs.YtmidechdlbcepaaGreat

namespace Go.Proofs.YtmidechdlbcepaaGreat
open Go.RowKit

section
variable {P : Program} {T : Tbl} {n i : Nat} {ops : Array Oper} {st : St} {o : Oper} {d : Nat}
theorem Step.own1 {g : Nat} {ob ob' : OB} {p : Option (Nat × AV)} {own' : Own} (ho : ops[i]? = some o) (hd : ∀ q, p = some q → o.dst = some q.1) (hg : lk st.own g = some ob)
    (hs : T.Ok P → ∀ s2 : St, (∀ t ∈ o.looksAt ops, lk s2.t t = lk st.t t) → lk s2.own g = some ob → OpSem P n ops i s2 ⟨p.toList ++ s2.t, (g, ob') :: s2.own⟩)
    (hr : T.Ok P → ∀ k, k ≠ g → (∀ t ∈ o.looksAt ops, ∀ a, lk st.t t = some a → a.refs k = false) → AV.refsL k ob.cells = false → (∀ q, p = some q → q.2.refs k = false) ∧ AV.refsL k ob'.cells = false)
    (he : ∀ i, lk own' i = lk ((g, ob') :: st.own) i) : Step P T n ops i ⟨[g], [g], []⟩ st ⟨p.toList ++ st.t, own'⟩ := by
  intro hT
  refine ⟨o, p, [(g, some ob')], ho, ⟨fun s2 s2' e1 e2 hf2 hi => ?_, fun k e1 e2 e3 e4 => ?_, hd, fun k x hk => ?_, fun g hg => (by cases hg)⟩, fun g hg => (by cases hg), ⟨fun _ => rfl, fun k => ?_⟩⟩
  · refine (hs hT s2 e1 ((e2 g (by simp)).trans hg)).eqv ⟨fun j => hi.1 j, fun k => ?_⟩
    rw [hi.2, eff_cons, lk_cons]
    rfl
  · have := hr hT k (by rintro rfl; exact e4 (by simp)) e1 (e2 g (by simp) ob hg)
    refine ⟨this.1, fun k' ob2 hk => ?_⟩
    rw [lk_cons] at hk
    split at hk
    · simp only [Option.some.injEq] at hk
      subst hk
      exact this.2
    · cases hk
  · rw [lk_cons] at hk
    split at hk
    · rename_i e; subst e; simp
    · cases hk
  · show lk own' k = _
    rw [he, eff_cons, lk_cons]
    rfl
theorem onesB_app : ∀ {as bs : List AV}, onesB as = true → onesB bs = true → onesB (as ++ bs) = true
  | [], _, _, h => h
  | a :: as, bs, h, h' => by
    simp only [onesB, Bool.and_eq_true] at h
    simp only [List.cons_append, onesB, Bool.and_eq_true]
    exact ⟨h.1, onesB_app h.2 h'⟩
theorem onesB_rep {zs : List AV} (h : onesB zs = true) : ∀ m, onesB ((List.replicate m zs).flatten) = true
  | 0 => rfl
  | m + 1 => by
    rw [List.replicate_succ, List.flatten_cons]
    exact onesB_app h (onesB_rep h m)
theorem osb_val {C : Ctx} {own : Own} {σ : Nat → Value} {Z : Nat → Prop} {w : World} (hI : Inv C own σ Z w) {g lo m q s N : Nat} {cs : List AV} {v : Value} (hg : lk own g = some (.row q s N cs)) (hv : (AV.osb g lo m s).Rep σ Z w v) :
    ∃ A c, v = .slice A m c ∧ m ≤ c ∧ N ≤ lo + c ∧ (0 < c → ∃ b, A = some ⟨b, lo * s, none⟩ ∧ blk (σ g) = some b) := by
  obtain ⟨A, c, A0, N', cap, q1, q2, q3, q4, q5, q6⟩ := hv
  have hN : N ≤ cap := by
    obtain ⟨xs, ho1, _⟩ := hI.has g _ hg
    rcases ho1.2 with ⟨e, A, e'⟩ | ⟨g', cap', cur, e, _, _, e2, _⟩
    · omega
    · rw [q2] at e; injection e with _ _ e3; omega
  refine ⟨A, c, q1, q4, by omega, fun h => ?_⟩
  obtain ⟨b, r1, r2⟩ := q6 h
  exact ⟨b, r2, by rw [q2, r1]; exact blk_slice (by omega)⟩

theorem clear_sem {t e s b g lo m q N : Nat} {x : Operand} {zs cs cs' : List AV} (hT : T.Ok P) (ho : ops[i]? = some o) (hg : o.guard = none) (hd : o.dst = none) (hop : o.op = .call { callee := .builtin .clear, args := #[x], argTypes := #[t] }) (hty : lk T.sli t = some (e, s, b)) (hz : lk T.zero e = some zs) (h1 : onesB zs = true)
    (hx : st.ev x = .osb g lo m s) (hob : lk st.own g = some (.row q s N cs)) (hset : setC cs (lo * s) ((List.replicate m zs).flatten) = some cs') : OpSem P n ops i st ⟨st.t, (g, .row q s N cs') :: st.own⟩ := by
  rintro C a w K Q ⟨h1', h2, σ, Z, hI, ht⟩ hK
  have hv := ev_rep ht x
  rw [hx] at hv
  obtain ⟨A, c, hv, hmc, _, hA⟩ := osb_val hI hob hv
  obtain ⟨hu, hs, i', z', hi1, hi2, hi3, hi4, hi5⟩ := sliT_spec (tbl_lk hT.sli hty)
  have h4' := tbl_lk hT.zero hz
  have hzr : AV.RepL σ Z w zs z'.cells.toList := by
    unfold zeroT at h4'
    simp only [hi1, hi2, Option.some.injEq] at h4'
    exact h4' ▸ liftZ_repL _ _ _ _
  have hz0 : ∀ k, AV.RepL σ Z w ((List.replicate k zs).flatten) ((List.replicate k z'.cells.toList).flatten) := fun k => by
    induction k with
    | zero => trivial
    | succ k ih => simpa [List.replicate_succ] using hzr.append ih
  have hzc : (Builtin.zeroCells z'.cells m).toList = (List.replicate m z'.cells.toList).flatten := by
    unfold Builtin.zeroCells
    rw [range_cells z'.cells m z'.cells.size rfl]
  have hzv : ∀ w, (zeroValue e).run P w = .ok z' w := fun w => by simp [zeroValue, typeInfo, hi1, hi2]
  have key : ∃ w', (Builtin.clear_ #[t] o.type #[.slice A m c]).run P w = .ok (.tuple #[]) w' ∧ Inv C ((g, .row q s N cs') :: st.own) σ Z w' ∧ Keeps Z w w' := by
    cases m with
    | zero =>
      have hcs : cs' = cs := by
        obtain ⟨_, e⟩ := setC_eq hset
        rw [e]
        simp
      subst hcs
      refine ⟨w, ?_, hI.same fun k => ?_, fun _ _ => rfl⟩
      · cases A <;> simp [Builtin.clear_, run_underlying hu]
      · rw [lk_cons]
        split
        · rename_i e; subst e; exact hob.symm
        · rfl
    | succ m =>
      obtain ⟨b', rfl, hb⟩ := hA (by omega)
      obtain ⟨w', hst, hI', hk⟩ := hI.store (P := P) hob hb hset (hz0 (m + 1)) (ones_rep (onesB_rep h1 (m + 1)) (hz0 (m + 1)))
      refine ⟨w', ?_, hI', hk⟩
      rw [← hzc] at hst
      simp [Builtin.clear_, run_underlying hu, hzv, hst]
  obtain ⟨w', hrun, hI', hk⟩ := key
  unfold wpOp
  simp only [ho]
  rw [if_pos (by simp [Region.wanted, hg])]
  refine .inl (wp_val (v := .tuple #[]) (w' := w') (by simp [execOp, hop, resolve, invoke, builtin, hv, hrun]) ?_)
  apply hK
  refine ⟨(put_defers ..).trans h1', by simp [Act.put, hd, h2], σ, Z, hI', ?_⟩
  simp only [Act.put, hd]
  exact ht.mono hk (fun _ h => h) (fun _ _ _ _ _ => rfl)

end

section
variable {P : Program} {T : Tbl} {n i : Nat} {ops : Array Oper} {l : List Oper} {fps : List Fp} {K : St → Prop} {tt : List (Nat × AV)} {H H' : Own} {o : Oper} {d : Nat}
theorem ev_at {st s2 : St} {x : Operand} (e1 : ∀ t ∈ o.looksAt ops, lk s2.t t = lk st.t t) (hm : x ∈ o.op.operands) : s2.ev x = st.ev x := ev_looks e1 x hm
theorem Ops.clr {t e s b g lo m q N : Nat} {x : Operand} {zs cs cs' : List AV} (hg : o.guard = none) (hd : o.dst = none) (hop : o.op = .call { callee := .builtin .clear, args := #[x], argTypes := #[t] }) (hty : lk T.sli t = some (e, s, b)) (hz : lk T.zero e = some zs) (h1 : onesB zs = true)
    (hx : evO tt x = some (.osb g lo m s)) (hob : lk H g = some (.row q s N cs)) (hset : setC cs (lo * s) ((List.replicate m zs).flatten) = some cs') (hrep : Repl g (.row q s N cs) (.row q s N cs') H H')
    (hK : OpsL P T n ops (i + 1) l fps K ⟨tt, H'⟩) : OpsL P T n ops i (o :: l) (⟨[g], [g], []⟩ :: fps) K ⟨tt, H⟩ :=
  ⟨_, _, rfl, fun ho => ⟨_, Step.own1 (p := none) (ob := .row q s N cs) (ob' := .row q s N cs') ho (fun q hq => by cases hq) hob
    (fun hT s2 e1 hg2 => clear_sem hT ho hg hd hop hty hz h1 ((ev_at e1 (by rw [hop]; simp [Op.operands, Call.operands])).trans (evO_ev (st := ⟨tt, H⟩) hx)) hg2 hset)
    (fun hT k hk _ hc => ⟨fun q hq => (by cases hq), by
      obtain ⟨_, e⟩ := setC_eq hset
      simp only [OB.cells] at hc ⊢
      rw [e]
      exact refsL_append (refsL_append (refsL_take _ hc) (refsL_flatten (zeroT_refs (tbl_lk hT.zero hz)) m)) (refsL_drop _ hc)⟩)
    hrep.lk.2, hK.out⟩⟩
end

theorem FunO.bodyL {P : Program} {T : Tbl} {f : FuncId} {fn : Func} {c : Code} {n : Nat} {args : List AV} {own own' : Own} {r : AV} (hT : T.Ok P) (hf : P.funcs[f]? = some fn) (hb : fn.body = some c) (hen : enterB P f = true) (hn : fn.ntmps = n) (hargs : Nat.ble args.length n = true) {rvs : List ResultVar} (hrv : fn.results.toList = rvs)
    (h : WP P n c (Post T rvs fun r' o' => r' = r ∧ leH o' own') ⟨argT 0 args, own⟩) : FunO P f args own r own' := by
  have ht := Triple.body (Q := fun r' o' => r' = r ∧ leH o' own') hT hf hb hen hn hargs hrv h
  refine ⟨ht.1, fun σ Z w vs hI hr => (ht.2 σ Z w vs hI hr).mono ?_⟩
  rintro e w' ⟨v, r', o', σ', Z', rfl, ⟨rfl, hle⟩, hI', hr'⟩
  exact ⟨v, r', own', σ', Z', rfl, ⟨rfl, rfl⟩, hI'.le (fun g ob h => leH_lk hle h), hr'⟩
theorem Post.ofL {T : Tbl} {rvs : List ResultVar} {r : AV} {own' : Own} {e : Exit} {s s' : St} {rs : List AV} (he : e = .ret ∨ e = .normal) (hle : St.Le s s') (h1 : retL T s' rvs = some rs) (h2 : retA rs = r) (h3 : leH s'.own own') : Post T rvs (fun r' o' => r' = r ∧ leH o' own') e s := by
  rcases he with rfl | rfl <;> exact ⟨s', hle, rs, h1, h2, h3⟩
theorem AV.To.frzE {φ : List (Nat × Whence)} {F : List Nat} {H : Own} {g e s n n' : Nat} {us : List FV} {cs : List AV} (h : lk H g = some (.row e s n cs)) (hn : n = n') (hc : cs = us.map .fv) (hF : (F.contains g) = true) : AV.To φ F H (.osl g) (.fv (.sl us n')) := by
  subst hn
  exact .frz h hc hF
theorem AV.To.frbE {φ : List (Nat × Whence)} {F : List Nat} {H : Own} {g e s N n n' : Nat} {us vs : List FV} {cs : List AV} (h : lk H g = some (.row e s N cs)) (hn : n = n') (hc : cs.take (n * s) = us.map .fv) (h2 : n ≤ N) (hF : (F.contains g) = true) (hvs : cs = vs.map .fv := by rfl) : AV.To φ F H (.osb g 0 n s) (.fv (.sl us n')) := by
  subst hn
  have h3 := AV.To.frb (φ := φ) (F := F) (H := H) (lo := 0) (n := n) h hvs (by omega) hF
  rw [Nat.zero_mul, List.drop_zero] at h3
  have : vs.take (n * s) = us := by
    rw [hvs, ← List.map_take] at hc
    exact (List.map_inj_right (fun a b h => by injection h)).1 hc
  rwa [this] at h3

section
variable {P : Program} {T : Tbl} {n i : Nat} {ops : Array Oper} {st : St} {o : Oper} {d : Nat}
theorem gst_sem {oj : Oper} {j t : Nat} {want : Bool} {c : Prop} {ag r : AV} {ρ : Operand → AV} (hT : T.Ok P) (ho : ops[i]? = some o) (hg : o.guard = some (j, want)) (hd : o.dst = some d) (hdn : d < n) (hoj : ops[j]? = some oj) (hjt : oj.dst = some t) (htn : t < n) (hb : lk st.t t = some ag) (hgv : GVal want ag c)
    (hE : c → (∀ x ∈ o.op.operands, Und c (st.ev x) (ρ x)) ∧ LEff P T ρ st.own d o.op r []) : OpSem P n ops i st ⟨(d, .whn c r) :: st.t, st.own⟩ := by
  rintro C a w K Q ⟨h1, h2, σ, Z, hI, ht⟩ hK
  have h3 := ht t _ hb
  have hspec := hgv.spec h3
  have hlt : t < a.tmps.size := by omega
  have hval : a.tmps[t]? = some (a.tmps.getD t undef) := by simp [Array.getD, hlt]
  have hy : Region.wanted o (yielded ops a.tmps) = true ↔ c := by
    rw [hspec]
    simp only [Region.wanted, hg, yielded, hoj, hjt, Option.bind_some, hval]
    cases a.tmps.getD t undef <;> simp
  unfold wpOp
  simp only [ho]
  by_cases hc : c
  · rw [if_pos (hy.2 hc)]
    classical
    obtain ⟨hgo, hE⟩ := hE hc
    have hE' : LEff P T (fun x => if x ∈ o.op.operands then ρ x else .any) st.own d o.op r [] := LEff.cut hE
    refine .inl (hE'.sound hT (fun x => ?_) hI (fun p hp => by cases hp) ?_)
    · by_cases hx : x ∈ o.op.operands
      · simp only [hx, if_true]; exact (hgo x hx).1 hc _ _ _ _ (ev_rep ht x)
      · simp only [hx, if_false]; trivial
    intro v w' σ' Z' hI' hz hk hs hrv
    apply hK
    refine ⟨(put_defers ..).trans h1, by simp [Act.put, hd, h2], σ', Z', hI', ?_⟩
    simp only [Act.put, hd]
    exact (temps_mono (A := []) ht hz hk hs (fun p hp => by cases hp)).put (by omega) ⟨fun _ => hrv, fun h => absurd hc h⟩
  · rw [if_neg (fun h => hc (hy.1 h))]
    apply hK
    refine ⟨(put_defers ..).trans h1, by simp [Act.put, hd, h2], σ, Z, hI, ?_⟩
    simp only [Act.put, hd]
    exact ht.put (by omega) ⟨fun h => absurd h hc, fun _ => rfl⟩
theorem Step.read2 {g : Nat} {ob : OB} {r : AV} (ho : ops[i]? = some o) (hd : o.dst = some d) (hg : lk st.own g = some ob)
    (hs : T.Ok P → ∀ s2 : St, (∀ t ∈ o.looksAt ops, lk s2.t t = lk st.t t) → lk s2.own g = some ob → OpSem P n ops i s2 ⟨(d, r) :: s2.t, s2.own⟩)
    (hr : ∀ k, k ≠ g → AV.refsL k ob.cells = false → r.refs k = false) : Step P T n ops i ⟨[g], [], []⟩ st ⟨(d, r) :: st.t, st.own⟩ := by
  intro hT
  refine ⟨o, some (d, r), [], ho, ⟨fun s2 s2' e1 e2 hf2 hi => ?_, fun k e1 e2 e3 e4 => ⟨fun q hq => ?_, fun k' ob2 hk => (by cases hk)⟩, fun q hq => (by obtain rfl := Option.some.inj hq; exact hd), fun k x hk => (by cases hk), fun g hg => (by cases hg)⟩, fun g hg => (by cases hg), ⟨fun _ => rfl, fun k => rfl⟩⟩
  · exact (hs hT s2 e1 ((e2 g (by simp)).trans hg)).eqv ⟨fun j => hi.1 j, fun k => hi.2 k⟩
  · obtain rfl := Option.some.inj hq
    by_cases hk : k = g
    · exact absurd (by simp [hk]) e4
    · exact hr k hk (e2 g (by simp) ob hg)
end
section
variable {P : Program} {T : Tbl} {n i : Nat} {ops : Array Oper} {l : List Oper} {fps : List Fp} {K : St → Prop} {tt : List (Nat × AV)} {H H' : Own} {o : Oper} {d : Nat}
theorem Ops.gld {oj : Oper} {j tj ty g off : Nat} {want : Bool} {ag r : AV} {c : Prop} {x : Operand} {ob : OB} (hg : o.guard = some (j, want)) (hd : o.dst = some d) (hn : Nat.blt d n = true) (hj : ops[j]? = some oj) (hdj : oj.dst = some tj) (hnj : Nat.blt tj n = true) (hb : lk tt tj = some ag) (hgv : GVal want ag c)
    (hop : o.op = .load ty x) (hx : evG tt x = some (.optr g off)) (hgo : c → gok c (St.ev ⟨tt, H⟩ x)) (hob : lk H g = some ob) (hr : readA T ty off ob.cells = some r)
    (hK : OpsL P T n ops (i + 1) l fps K ⟨(d, .whn c r) :: tt, H⟩) : OpsL P T n ops i (o :: l) (⟨[g], [], []⟩ :: fps) K ⟨tt, H⟩ :=
  ⟨_, _, rfl, fun ho => ⟨_, Step.read2 (r := .whn c r) (ob := ob) ho hd hob
    (fun hT s2 e1 hg2 => gst_sem (ρ := fun x => (s2.ev x).strip) hT ho hg hd (by simpa [Nat.blt_eq] using hn) hj hdj (by simpa [Nat.blt_eq] using hnj) ((e1 tj (List.mem_append_right _ (by simp [hg, hj, hdj]))).trans hb) hgv (fun hc => by
      have hm : x ∈ o.op.operands := by rw [hop]; simp [Op.operands]
      have he : s2.ev x = St.ev ⟨tt, H⟩ x := ev_at e1 hm
      have hs : (s2.ev x).strip = .optr g off := by rw [he]; exact evG_ev (st := ⟨tt, H⟩) hx
      refine ⟨fun y hy => ?_, ?_⟩
      · obtain rfl : y = x := by rw [hop] at hy; simpa [Op.operands] using hy
        exact .strip (by rw [he]; exact hgo hc)
      · rw [hop]
        exact .eff (.loadO hs hg2 hr)))
    (fun k hk hc => by
      simp only [AV.refs]
      exact readB_refs (readA_eq hr) (refsL_drop _ hc)), hK.out⟩⟩
end
theorem WP.join {P : Program} {n : Nat} {ι : Type} {x y : Code} {Q Q' : Exit → St → Prop} {st : St} (I : ι → St) (p : ι → Prop) (h1 : WP P n x (thenQ (fun s => ∃ i, p i ∧ St.Le s (I i)) Q) st) (h2 : ∀ i, p i → WP P n y Q' (I i)) : WP P n x (thenQ (WP P n y Q') Q) st := by
  refine h1.mono fun e s h => ?_
  cases e with
  | normal =>
    obtain ⟨i, hp, hle⟩ := h
    exact .le hle (h2 i hp)
  | _ => exact h
end Go.Proofs.YtmidechdlbcepaaGreat

namespace Go.Proofs.YtmidechdlbcepaaGreat
open Go.RowKit

structure Held (p : Prop) : Prop where
  out : p
theorem WP.hold {P : Program} {n : Nat} (k : Nat) {c d : Code} {Q : Exit → St → Prop} {st : St} (h : Held (WP P n (.cond (.tmp k) c d) Q st)) : WP P n (.cond (.tmp k) c d) Q st := h.out
end Go.Proofs.YtmidechdlbcepaaGreat

namespace Go.Proofs.YtmidechdlbcepaaGreat
open Go.ChangeShapes Go.WideShapes Go.ChangeAt Go.RowKit Go.Deep

def RepF (w : World) (fs : List FV) (us : List Value) : Prop := ∀ σ, AV.RepL σ (fun b => b < w.heap.size) w (fs.map .fv) us
theorem RepF.append {w : World} {fs gs : List FV} {us vs : List Value} (h : RepF w fs us) (h' : RepF w gs vs) : RepF w (fs ++ gs) (us ++ vs) := fun σ => by
  rw [List.map_append]
  exact (h σ).append (h' σ)
theorem RepF.length {w : World} {fs : List FV} {us : List Value} (h : RepF w fs us) : us.length = fs.length := by simpa using (h (fun _ => undef)).length
section
variable {H : Type} {enc : TypeId × Value → H} {w : World} {base : Nat} {spare : Nat → Bool} {held : Bool}
end

theorem Fun.yes {P : Program} {f : FuncId} {args : List AV} {vs : List Value} {w : World} (h : Fun P f args (.fv (.bool true))) (hr : AV.RepL (fun _ => undef) (fun b => b < w.heap.size) w args vs) :
    Calls P f vs.toArray w fun e w' => e = .returned (.bool true) ∧ Below w.heap.size w w' := by
  refine (h.2 (fun _ => undef) (fun b => b < w.heap.size) w vs (inv_none fun _ h => h) hr).mono ?_
  rintro e w' ⟨v, r, own', σ', Z', rfl, ⟨rfl, rfl⟩, hI, hv⟩
  have hv : v = .bool true := hv
  subst hv
  refine ⟨rfl, hI.os, hI.tape, hI.output, hI.size, fun b hb => hI.frame b hb ?_⟩
  rintro ⟨g, ob, h1, _⟩
  simp [lk] at h1
end Go.Proofs.YtmidechdlbcepaaGreat
