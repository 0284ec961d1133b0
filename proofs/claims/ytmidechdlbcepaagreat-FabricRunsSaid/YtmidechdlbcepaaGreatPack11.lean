import Derived.Test.YtmidechdlbcepaaGreatPack09
import Derived.Calls
import Derived.Orders
import Derived.WalkKit
set_option linter.unusedSimpArgs false
set_option linter.unusedVariables false
namespace Go.Proofs.YtmidechdlbcepaaGreat
open Go.RowKit
def St.Le (s s' : St) : Prop := ∀ n C a w, Rel n C s a w → Rel n C s' a w
theorem St.Le.refl (s : St) : St.Le s s := fun _ _ _ _ h => h
theorem St.Le.trans {a b c : St} (h : St.Le a b) (k : St.Le b c) : St.Le a c := fun n C x w hr => k n C x w (h n C x w hr)
def AV.Le (a b : AV) : Prop := ∀ σ Z w v, a.Rep σ Z w v → b.Rep σ Z w v
theorem AV.Le.refl (a : AV) : AV.Le a a := fun _ _ _ _ h => h
theorem AV.Le.any (a : AV) : AV.Le a .any := fun _ _ _ _ _ => trivial
theorem AV.Le.nil : AV.Le .nil (.fv (.sl [] 0)) := fun _ _ _ v h => by
  have : v = .slice none 0 0 := h
  exact ⟨none, 0, this, Nat.le_refl _, Nat.zero_le _, .inl rfl⟩
theorem AV.Le.agg {as bs : List AV} (h : ∀ σ Z w vs, AV.RepL σ Z w as vs → AV.RepL σ Z w bs vs) : AV.Le (.agg as) (.agg bs) := fun σ Z w _ ⟨arr, e, hr⟩ => ⟨arr, e, h σ Z w _ hr⟩
inductive AV.LeL : List AV → List AV → Prop
  | nil : AV.LeL [] []
  | cons {a b : AV} {as bs : List AV} : AV.Le a b → AV.LeL as bs → AV.LeL (a :: as) (b :: bs)
theorem AV.LeL.refl : ∀ (as : List AV), AV.LeL as as
  | [] => .nil
  | a :: as => .cons (AV.Le.refl a) (AV.LeL.refl as)
theorem AV.LeL.rep {as bs : List AV} (h : AV.LeL as bs) : ∀ {σ : Nat → Value} {Z : Nat → Prop} {w : World} {vs : List Value}, AV.RepL σ Z w as vs → AV.RepL σ Z w bs vs := by
  induction h with
  | nil => exact fun h => h
  | cons h _ ih =>
    intro σ Z w vs hr
    cases vs with
    | nil => exact hr.elim
    | cons v vs => exact ⟨h σ Z w v hr.1, ih hr.2⟩

def leT (t : List (Nat × AV)) : List (Nat × AV) → Prop
  | [] => True
  | (i, a) :: l => (∃ b, lk t i = some b ∧ AV.Le b a) ∧ leT t l
def leH (t : Own) : Own → Prop
  | [] => True
  | (i, a) :: l => (∃ b, lk t i = some b ∧ ∀ σ Z w h, b.Rep σ Z w h → a.Rep σ Z w h) ∧ leH t l
theorem leT_lk {t : List (Nat × AV)} : ∀ {l : List (Nat × AV)}, leT t l → ∀ {i : Nat} {a : AV}, lk l i = some a → ∃ b, lk t i = some b ∧ AV.Le b a
  | [], _, _, _, h => by simp [lk] at h
  | (k, x) :: l, hl, i, a, h => by
    rw [lk_cons] at h
    split at h
    · rename_i e; subst e; obtain rfl := Option.some.inj h; exact hl.1
    · exact leT_lk hl.2 h
theorem leH_lk {t : Own} : ∀ {l : Own}, leH t l → ∀ {i : Nat} {a : OB}, lk l i = some a → ∃ b, lk t i = some b ∧ ∀ σ Z w h, b.Rep σ Z w h → a.Rep σ Z w h
  | [], _, _, _, h => by simp [lk] at h
  | (k, x) :: l, hl, i, a, h => by
    rw [lk_cons] at h
    split at h
    · rename_i e; subst e; obtain rfl := Option.some.inj h; exact hl.1
    · exact leH_lk hl.2 h
theorem Inv.le {C : Ctx} {own own' : Own} {σ : Nat → Value} {Z : Nat → Prop} {w : World} (h : Inv C own σ Z w) (hl : ∀ g ob, lk own' g = some ob → ∃ ob', lk own g = some ob' ∧ ∀ σ Z w h, ob'.Rep σ Z w h → ob.Rep σ Z w h) : Inv C own' σ Z w := by
  refine ⟨h.os, h.tape, h.output, h.size, h.drawn, h.frame, h.zlt, h.zold, h.znew, fun g ob hg => ?_, fun g ob b hg => ?_, fun g g' ob ob' b hg hg' => ?_, h.keep⟩
  · obtain ⟨ob', h1, h2⟩ := hl g ob hg
    exact h2 _ _ _ _ (h.has g ob' h1)
  · obtain ⟨ob', h1, _⟩ := hl g ob hg
    exact h.mine g ob' b h1
  · obtain ⟨x, h1, _⟩ := hl g ob hg
    obtain ⟨x', h1', _⟩ := hl g' ob' hg'
    exact h.inj g g' x x' b h1 h1'
theorem St.le_of {s s' : St} (ht : leT s.t s'.t) (hh : leH s.own s'.own) : St.Le s s' := by
  rintro n C a w ⟨h1, h2, σ, Z, hi, htm⟩
  refine ⟨h1, h2, σ, Z, hi.le fun g ob hg => leH_lk hh hg, fun i x hx => ?_⟩
  obtain ⟨b, h3, h4⟩ := leT_lk ht hx
  exact h4 _ _ _ _ (htm i b h3)

def WP (P : Program) (n : Nat) (c : Code) (Q : Exit → St → Prop) (st : St) : Prop :=
  ∀ C a w, Rel n C st a w → c.wp P (fun e a' w' => ∃ st', Q e st' ∧ Rel n C st' a' w') a w
def thenQ (next : St → Prop) (Q : Exit → St → Prop) : Exit → St → Prop
  | .normal, s => next s
  | .exit i, s => Q (.exit i) s
  | .goto i, s => Q (.goto i) s
  | .ret, s => Q .ret s
  | .panic c, s => Q (.panic c) s
  | .outgrown, s => Q .outgrown s
def blockQ (id : Nat) (Q : Exit → St → Prop) : Exit → St → Prop
  | .normal, s => Q .normal s
  | .exit i, s => match Nat.beq i id with
    | true => Q .normal s
    | false => Q (.exit i) s
  | .goto i, s => Q (.goto i) s
  | .ret, s => Q .ret s
  | .panic c, s => Q (.panic c) s
  | .outgrown, s => Q .outgrown s

section
variable {P : Program} {n : Nat} {Q : Exit → St → Prop} {st : St}
theorem WP.le {c : Code} {st' : St} (hl : St.Le st st') (h : WP P n c Q st') : WP P n c Q st := fun C a w hr => h C a w (hl n C a w hr)
theorem WP.mono {c : Code} {Q' : Exit → St → Prop} (h : WP P n c Q' st) (hq : ∀ e s, Q' e s → Q e s) : WP P n c Q st :=
  fun C a w hr => wp_mono (h C a w hr) fun _ _ _ ⟨st', h1, h2⟩ => ⟨st', hq _ _ h1, h2⟩
theorem WP.skip (h : Q .normal st) : WP P n .skip Q st := fun _ _ _ hr => wp_skip ⟨st, h, hr⟩
theorem WP.exit {l : Nat} (h : Q (.exit l) st) : WP P n (.exit l) Q st := fun _ _ _ hr => wp_exit ⟨st, h, hr⟩
theorem WP.goto {l : Nat} (h : Q (.goto l) st) : WP P n (.goto l) Q st := fun _ _ _ hr => wp_goto ⟨st, h, hr⟩
theorem WP.ret (h : Q .ret st) : WP P n .ret Q st := fun _ _ _ hr => wp_ret ⟨st, h, hr⟩
theorem WP.seq {x y : Code} (h : WP P n x (thenQ (WP P n y Q) Q) st) : WP P n (.seq x y) Q st := by
  intro C a w hr
  refine wp_seq (wp_mono (h C a w hr) ?_)
  rintro e a' w' ⟨s, h1, h2⟩
  cases e with
  | normal => exact h1 C a' w' h2
  | _ => exact ⟨s, h1, h2⟩
theorem WP.block {id : Nat} {c : Code} (h : WP P n c (blockQ id Q) st) : WP P n (.block id c) Q st := by
  intro C a w hr
  refine wp_block (wp_mono (h C a w hr) ?_)
  rintro e a' w' ⟨s, h1, h2⟩
  cases e with
  | exit i =>
    simp only [Exit.inBlock]
    split
    · rename_i e
      subst e
      simp only [blockQ, Nat.beq_refl] at h1
      exact ⟨s, h1, h2⟩
    · rename_i e
      have : Nat.beq i id = false := by cases e' : Nat.beq i id with
        | false => rfl
        | true => exact absurd (Nat.eq_of_beq_eq_true e') e
      simp only [blockQ, this] at h1
      exact ⟨s, h1, h2⟩
  | _ => exact ⟨s, h1, h2⟩

def liftV : Value → AV
  | .int k n => .fv (.int k n)
  | .bool b => .fv (.bool b)
  | .string s => match Nat.ble s.size 1000 with
    | true => .fv (.str s)
    | false => .any
  | .slice none 0 0 => .nil
  | _ => .any
def St.ev (st : St) : Operand → AV
  | .tmp t => (lk st.t t).getD .any
  | .const v => liftV v
  | .func f => .fn f []
  | .global _ => .any
theorem liftV_rep (σ : Nat → Value) (Z : Nat → Prop) (w : World) (v : Value) : (liftV v).Rep σ Z w v := by
  unfold liftV
  split
  · rfl
  · rfl
  · rename_i s
    split
    · rename_i h
      have := Nat.le_of_ble_eq_true h
      exact ⟨rfl, by unfold maxLen; omega⟩
    · trivial
  · rfl
  · trivial
theorem ev_rep {σ : Nat → Value} {Z : Nat → Prop} {w : World} {a : Act} (h : Temps σ Z w st.t a.tmps) (x : Operand) : (st.ev x).Rep σ Z w (a.eval x) := by
  cases x with
  | tmp t =>
    show ((lk st.t t).getD .any).Rep σ Z w (a.tmps.getD t undef)
    cases e : lk st.t t with
    | none => trivial
    | some b => exact h t b e
  | const v => exact liftV_rep σ Z w v
  | func f => exact ⟨#[], rfl, trivial⟩
  | global g => trivial
theorem WP.cond {c : Operand} {x y : Code} {b : Bool} (hc : st.ev c = .fv (.bool b)) (ht : b = true → WP P n x Q st) (hf : b = false → WP P n y Q st) : WP P n (.cond c x y) Q st := by
  rintro C a w hr
  have hr' := hr
  obtain ⟨h1, h2, σ, Z, hi, htm⟩ := hr
  have := ev_rep htm c
  rw [hc] at this
  have hb : a.eval c = .bool b := this
  exact wp_cond_split hb (fun e => ht e C a w hr') (fun e => hf e C a w hr')

theorem WP.condBit {c : Operand} {x y : Code} (hc : st.ev c = .bit) (ht : WP P n x Q st) (hf : WP P n y Q st) : WP P n (.cond c x y) Q st := by
  rintro C a w hr
  have hr' := hr
  obtain ⟨h1, h2, σ, Z, hi, htm⟩ := hr
  have := ev_rep htm c
  rw [hc] at this
  obtain ⟨b, hb⟩ := this
  exact wp_cond_split hb (fun _ => ht C a w hr') (fun _ => hf C a w hr')

theorem least {p : Nat → Prop} (h : ∃ n, p n) : ∃ n, p n ∧ ∀ m, p m → n ≤ m := by
  classical
  obtain ⟨n, hn⟩ := h
  induction n using Nat.strongRecOn with
  | _ n ih =>
    by_cases hx : ∃ m, m < n ∧ p m
    · obtain ⟨m, hm, hp⟩ := hx
      exact ih m hm hp
    · exact ⟨n, hn, fun m hm => by
        rcases Nat.lt_or_ge m n with h | h
        · exact absurd ⟨m, h, hm⟩ hx
        · exact h⟩
theorem WP.loop {ι : Type} {c : Code} (S : ι → St) (p : ι → Prop) (μ : ι → Nat) (i0 : ι) (h0 : p i0) (hs : St.Le st (S i0))
    (round : ∀ i, p i → WP P n c (thenQ (fun s => ∃ j, p j ∧ μ j < μ i ∧ St.Le s (S j)) Q) (S i)) : WP P n (.loop c) Q st := by
  classical
  intro C a w hr
  let I : Act → World → Prop := fun a w => ∃ k i, p i ∧ Rel n C (S i) a w ∧ μ i = k
  let m : Act → World → Nat := fun a w => if h : I a w then Classical.choose (least h) else 0
  have hm : ∀ a w, (h : I a w) → m a w = Classical.choose (least h) := fun a w h => dif_pos h
  refine wp_loop I m ⟨μ i0, i0, h0, hs n C a w hr, rfl⟩ ?_
  intro a w hI
  obtain ⟨i, hp, hrel, hi⟩ := (Classical.choose_spec (least hI)).1
  refine wp_mono (round i hp C a w hrel) ?_
  rintro e a' w' ⟨s, h1, h2⟩
  cases e with
  | normal =>
    obtain ⟨j, hj1, hj2, hj3⟩ := h1
    have hI' : I a' w' := ⟨μ j, j, hj1, hj3 n C a' w' h2, rfl⟩
    refine ⟨hI', ?_⟩
    have hle := (Classical.choose_spec (least hI')).2 (μ j) ⟨j, hj1, hj3 n C a' w' h2, rfl⟩
    rw [hm a' w' hI', hm a w hI]
    omega
  | _ => exact ⟨s, h1, h2⟩
end
end Go.Proofs.YtmidechdlbcepaaGreat