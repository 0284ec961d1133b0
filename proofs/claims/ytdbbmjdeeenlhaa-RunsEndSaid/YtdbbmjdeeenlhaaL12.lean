/- A logic of memory: what an operation does, and how far it looks; two whose order does not matter. -/
import Derived.Test.YtdbbmjdeeenlhaaL11
namespace Go.Proofs.Ytdbbmjdeeenlhaa
open Go.RowKit

/-- Two states that say the same. -/
def Eqv (s s' : St) : Prop := (∀ i, lk s'.t i = lk s.t i) ∧ ∀ g, lk s'.own g = lk s.own g
theorem Eqv.refl (s : St) : Eqv s s := ⟨fun _ => rfl, fun _ => rfl⟩
theorem Eqv.trans {a b c : St} (h : Eqv a b) (k : Eqv b c) : Eqv a c := ⟨fun i => (k.1 i).trans (h.1 i), fun g => (k.2 g).trans (h.2 g)⟩
theorem Eqv.symm {s s' : St} (h : Eqv s s') : Eqv s' s := ⟨fun i => (h.1 i).symm, fun g => (h.2 g).symm⟩
theorem Eqv.rel {s s' : St} (h : Eqv s s') {n : Nat} {C : Ctx} {a : Act} {w : World} (hr : Rel n C s a w) : Rel n C s' a w := by
  obtain ⟨h1, h2, σ, Z, hI, ht⟩ := hr
  exact ⟨h1, h2, σ, Z, hI.same h.2, fun i x hx => ht i x (h.1 i ▸ hx)⟩
theorem lk_append {α : Type} : ∀ (A H : List (Nat × α)) (i : Nat), lk (A ++ H) i = match lk A i with | some x => some x | none => lk H i
  | [], _, _ => rfl
  | (k, x) :: A, H, i => by
    rw [List.cons_append, lk_cons, lk_cons, lk_append A H i]
    split <;> rfl
theorem lk_append_none {α : Type} {A H : List (Nat × α)} {i : Nat} (h : lk A i = none) : lk (A ++ H) i = lk H i := by rw [lk_append, h]
theorem lk_rmv (g : Nat) (l : Own) (k : Nat) : lk (rmv g l) k = if g = k then none else lk l k := by
  by_cases h : g = k
  · subst h; rw [if_pos rfl]; exact (rmv_p g l).1
  · rw [if_neg h]; exact (rmv_p g l).2 k (Ne.symm h)

/-- An operation leads from state to state. -/
def OpSem (P : Program) (n : Nat) (ops : Array Oper) (i : Nat) (s s' : St) : Prop :=
  ∀ (C : Ctx) (a : Act) (w : World) (K : Act → World → Prop) (Q : Exit → Act → World → Prop), Rel n C s a w → (∀ a' w', Rel n C s' a' w' → K a' w') → wpOp P ops Q i K a w
theorem OpStep.sem {P : Program} {T : Tbl} {n : Nat} {ops : Array Oper} {i : Nat} {s s' s2 : St} (hT : T.Ok P) (h : OpStep P T n ops i s s') (he : Eqv s' s2) : OpSem P n ops i s s2 :=
  fun _ _ _ _ _ hr hK => h.sound hT hr fun a' w' hr' => hK a' w' (he.rel hr')
/-- Blocks after a change. -/
def eff (D : List (Nat × Option OB)) (H : Own) (g : Nat) : Option OB := match lk D g with
  | some x => x
  | none => lk H g
def appD : List (Nat × Option OB) → Own → Own
  | [], H => H
  | (g, some ob) :: D, H => (g, ob) :: appD D H
  | (g, none) :: D, H => rmv g (appD D H)
theorem lk_app : ∀ (D : List (Nat × Option OB)) (H : Own) (g : Nat), lk (appD D H) g = eff D H g
  | [], _, _ => rfl
  | (k, some ob) :: D, H, g => by
    simp only [appD, eff, lk_cons]
    split
    · rfl
    · exact lk_app D H g
  | (k, none) :: D, H, g => by
    simp only [appD, eff, lk_cons, lk_rmv]
    split
    · rfl
    · exact lk_app D H g
theorem eff_cons (g : Nat) (x : Option OB) (D : List (Nat × Option OB)) (H : Own) (k : Nat) : eff ((g, x) :: D) H k = if g = k then x else eff D H k := by
  unfold eff
  rw [lk_cons]
  by_cases h : g = k
  · rw [if_pos h, if_pos h]
  · rw [if_neg h, if_neg h]
def St.Is (s' : St) (p : Option (Nat × AV)) (D : List (Nat × Option OB)) (s : St) : Prop := (∀ j, lk s'.t j = lk (p.toList ++ s.t) j) ∧ ∀ g, lk s'.own g = eff D s.own g
theorem St.is_app (p : Option (Nat × AV)) (D : List (Nat × Option OB)) (s : St) : St.Is ⟨p.toList ++ s.t, appD D s.own⟩ p D s := ⟨fun _ => rfl, fun g => lk_app D s.own g⟩
/-- Which blocks an operation reads, changes, makes. -/
structure Fp where
  r : List Nat
  w : List Nat
  n : List Nat
/-- All that an operation hangs on. -/
structure Local (P : Program) (n : Nat) (ops : Array Oper) (i : Nat) (o : Oper) (p : Option (Nat × AV)) (D : List (Nat × Option OB)) (fp : Fp) (s : St) : Prop where
  sem : ∀ s2 s2' : St, (∀ t ∈ o.looksAt ops, lk s2.t t = lk s.t t) → (∀ g ∈ fp.r, lk s2.own g = lk s.own g) → (∀ g ∈ fp.n, NoT g s2.t ∧ NoH g s2.own) → s2'.Is p D s2 → OpSem P n ops i s2 s2'
  refs : ∀ g, (∀ t ∈ o.looksAt ops, ∀ a, lk s.t t = some a → a.refs g = false) → (∀ k ∈ fp.r, ∀ ob, lk s.own k = some ob → AV.refsL g ob.cells = false) → g ∉ fp.n → g ∉ fp.r → (∀ q, p = some q → q.2.refs g = false) ∧ ∀ k ob, lk D k = some (some ob) → AV.refsL g ob.cells = false
  dst : ∀ q, p = some q → o.dst = some q.1
  keys : ∀ k x, lk D k = some x → k ∈ fp.w
  nw : ∀ g ∈ fp.n, g ∈ fp.w
def FreshN (fp : Fp) (s : St) : Prop := ∀ g ∈ fp.n, NoT g s.t ∧ NoH g s.own
def StepS (P : Program) (n : Nat) (ops : Array Oper) (i : Nat) (fp : Fp) (s s' : St) : Prop :=
  ∃ o p D, ops[i]? = some o ∧ Local P n ops i o p D fp s ∧ FreshN fp s ∧ s'.Is p D s
theorem StepS.sem {P : Program} {n : Nat} {ops : Array Oper} {i : Nat} {fp : Fp} {s s' : St} (h : StepS P n ops i fp s s') : OpSem P n ops i s s' := by
  obtain ⟨o, p, D, _, hL, hf, hi⟩ := h
  exact hL.sem s s' (fun _ _ => rfl) (fun _ _ => rfl) hf hi
theorem Local.at_ {P : Program} {n : Nat} {ops : Array Oper} {i : Nat} {o : Oper} {p : Option (Nat × AV)} {D : List (Nat × Option OB)} {fp : Fp} {s s2 : St} (h : Local P n ops i o p D fp s) (h1 : ∀ t ∈ o.looksAt ops, lk s2.t t = lk s.t t) (h2 : ∀ g ∈ fp.r, lk s2.own g = lk s.own g) : Local P n ops i o p D fp s2 :=
  ⟨fun s3 s3' e1 e2 => h.sem s3 s3' (fun t ht => (e1 t ht).trans (h1 t ht)) (fun g hg => (e2 g hg).trans (h2 g hg)),
   fun g e1 e2 => h.refs g (fun t ht a ha => e1 t ht a ((h1 t ht).trans ha)) (fun k hk ob hob => e2 k hk ob ((h2 k hk).trans hob)), h.dst, h.keys, h.nw⟩
theorem FreshN.eqv {fp : Fp} {s s' : St} (h : FreshN fp s) (he : Eqv s s') : FreshN fp s' := fun g hg => ⟨fun i a hi => (h g hg).1 i a (he.1 i ▸ hi), fun i ob hi => (h g hg).2 i ob (he.2 i ▸ hi)⟩
theorem eff_eqv {D : List (Nat × Option OB)} {H H' : Own} (h : ∀ g, lk H' g = lk H g) (g : Nat) : eff D H' g = eff D H g := by
  unfold eff
  split
  · rfl
  · exact h g
theorem StepS.eqv {P : Program} {n : Nat} {ops : Array Oper} {i : Nat} {fp : Fp} {s s' s1 : St} (h : StepS P n ops i fp s s1) (he : Eqv s s') : StepS P n ops i fp s' s1 := by
  obtain ⟨o, p, D, ho, hL, hf, h1, h2⟩ := h
  refine ⟨o, p, D, ho, hL.at_ (fun t _ => he.1 t) (fun g _ => he.2 g), hf.eqv he, fun j => ?_, fun g => ?_⟩
  · rw [h1, lk_append, lk_append, he.1]
  · rw [h2, eff_eqv he.2]
def disj (a b : List Nat) : Bool := a.all fun x => b.all fun y => !Nat.beq x y
theorem disj_not {a b : List Nat} (h : disj a b = true) {x : Nat} (hx : x ∈ a) : x ∉ b := by
  intro hb
  have := List.all_eq_true.1 (List.all_eq_true.1 h x hx) x hb
  simp at this
/-- Two operations whose order does not matter. -/
def indepF (ops : Array Oper) (x y : Oper) (fx fy : Fp) : Bool := x.apart ops y && disj fx.w fy.r && disj fx.w fy.w && disj fy.w fx.r
section
variable {P : Program} {n : Nat} {ops : Array Oper} {s s1 s2 : St}
theorem StepS.fresh {i : Nat} {fp : Fp} {g : Nat} (h : StepS P n ops i fp s s1) (h1 : NoT g s.t) (h2 : NoH g s.own) (hg : g ∉ fp.n) (hgr : g ∉ fp.r) : NoT g s1.t ∧ NoH g s1.own := by
  obtain ⟨o, p, D, ho, hL, hf, e1, e2⟩ := h
  obtain ⟨r1, r2⟩ := hL.refs g (fun t _ a ha => h1 t a ha) (fun k _ ob hob => h2 k ob hob) hg hgr
  refine ⟨fun j a hj => ?_, fun k ob hk => ?_⟩
  · rw [e1, lk_append] at hj
    split at hj
    · rename_i x hx
      obtain rfl := Option.some.inj hj
      cases p with
      | none => simp [lk] at hx
      | some q =>
        obtain ⟨q1, q2⟩ := q
        simp only [Option.toList, lk_cons] at hx
        split at hx
        · obtain rfl := Option.some.inj hx; exact r1 _ rfl
        · simp [lk] at hx
    · exact h1 j a hj
  · rw [e2] at hk
    unfold eff at hk
    split at hk
    · rename_i x hx
      subst hk
      exact r2 k ob hx
    · exact h2 k ob hk
theorem StepS.swap {x y : Nat} {ox oy : Oper} {fx fy : Fp} (hx : StepS P n ops x fx s s1) (hy : StepS P n ops y fy s1 s2) (hox : ops[x]? = some ox) (hoy : ops[y]? = some oy) (hi : indepF ops ox oy fx fy = true) (hn : disj fx.n fy.n = true) (hF : FreshN fy s) :
    ∃ s1', StepS P n ops y fy s s1' ∧ StepS P n ops x fx s1' s2 := by
  simp only [indepF, Bool.and_eq_true] at hi
  obtain ⟨⟨⟨hap, d1⟩, d2⟩, d3⟩ := hi
  obtain ⟨ap1, ap2, ap3⟩ := Oper.apart_spec hap
  obtain ⟨o, px, Dx, ho, hLx, hfx, t1, w1⟩ := hx
  obtain rfl : o = ox := Option.some.inj (ho.symm.trans hox)
  obtain ⟨o', py, Dy, ho', hLy, hfy, t2, w2⟩ := hy
  obtain rfl : o' = oy := Option.some.inj (ho'.symm.trans hoy)
  have kx : ∀ g, g ∉ fx.w → lk Dx g = none := fun g hg => by
    cases e : lk Dx g with
    | none => rfl
    | some z => exact absurd (hLx.keys g z e) hg
  have ky : ∀ g, g ∉ fy.w → lk Dy g = none := fun g hg => by
    cases e : lk Dy g with
    | none => rfl
    | some z => exact absurd (hLy.keys g z e) hg
  have px0 : ∀ t ∈ o'.looksAt ops, lk px.toList t = none := fun t ht => by
    cases px with
    | none => rfl
    | some q => exact lk_skip _ _ (by rintro rfl; exact ap1 _ (hLx.dst _ rfl) ht)
  have py0 : ∀ t ∈ o.looksAt ops, lk py.toList t = none := fun t ht => by
    cases py with
    | none => rfl
    | some q => exact lk_skip _ _ (by rintro rfl; exact ap3 _ (hLy.dst _ rfl) ht)
  have hLy' : Local P n ops y o' py Dy fy s := hLy.at_ (fun t ht => by rw [t1, lk_append_none (px0 t ht)]) (fun g hg => by
    rw [w1]
    unfold eff
    rw [kx g (fun h => disj_not d1 h hg)])
  have hy' : StepS P n ops y fy s ⟨py.toList ++ s.t, appD Dy s.own⟩ := ⟨o', py, Dy, hoy, hLy', hF, St.is_app py Dy s⟩
  refine ⟨_, hy', o, px, Dx, hox, hLx.at_ (fun t ht => lk_append_none (py0 t ht)) (fun g hg => ?_), fun g hg => ?_, fun j => ?_, fun g => ?_⟩
  · rw [lk_app]
    unfold eff
    rw [ky g (fun h => disj_not d3 h hg)]
  · exact hy'.fresh (hfx g hg).1 (hfx g hg).2 (disj_not hn hg) (disj_not d1 (hLx.nw g hg))
  · rw [t2, lk_append, t1, lk_append, lk_append, lk_append]
    cases py with
    | none => rfl
    | some qy =>
      cases px with
      | none => rfl
      | some qx =>
        obtain ⟨x1, x2⟩ := qx
        obtain ⟨y1, y2⟩ := qy
        have hne : x1 ≠ y1 := by
          rintro rfl
          exact ap2 x1 (hLx.dst (x1, x2) rfl) (hLy.dst (x1, y2) rfl)
        simp only [Option.toList, lk_cons]
        by_cases e1 : y1 = j
        · subst e1; simp [hne, lk]
        · simp [e1, lk]
  · rw [w2]
    unfold eff
    rw [lk_app]
    cases e1 : lk Dy g with
    | none =>
      simp only [w1]
      unfold eff
      rw [e1]
    | some z =>
      have : g ∉ fx.w := fun h => disj_not d2 h (hLy.keys g z e1)
      simp only [kx g this]
      unfold eff
      rw [e1]
end
end Go.Proofs.Ytdbbmjdeeenlhaa
