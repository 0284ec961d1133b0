/- A logic of memory: whatever order is drawn, a region comes to the same. -/
import Derived.Test.YtfgiehfiieecoaaL11
namespace Go.Proofs.Ytfgiehfiieecoaa
open Go.RowKit

/-- Two states that say the same. -/
def Eqv (s s' : St) : Prop := (∀ i, lk s'.t i = lk s.t i) ∧ ∀ g, lk s'.own g = lk s.own g
theorem Eqv.refl (s : St) : Eqv s s := ⟨fun _ => rfl, fun _ => rfl⟩
theorem Eqv.trans {a b c : St} (h : Eqv a b) (k : Eqv b c) : Eqv a c := ⟨fun i => (k.1 i).trans (h.1 i), fun g => (k.2 g).trans (h.2 g)⟩
theorem Eqv.rel {s s' : St} (h : Eqv s s') {n : Nat} {C : Ctx} {a : Act} {w : World} (hr : Rel n C s a w) : Rel n C s' a w := by
  obtain ⟨h1, h2, σ, Z, hI, ht⟩ := hr
  exact ⟨h1, h2, σ, Z, hI.same h.2, fun i x hx => ht i x (h.1 i ▸ hx)⟩
theorem lk_append {α : Type} : ∀ (A H : List (Nat × α)) (i : Nat), lk (A ++ H) i = match lk A i with | some x => some x | none => lk H i
  | [], _, _ => rfl
  | (k, x) :: A, H, i => by
    rw [List.cons_append, lk_cons, lk_cons, lk_append A H i]
    split <;> rfl
theorem lk_append_none {α : Type} {A H : List (Nat × α)} {i : Nat} (h : lk A i = none) : lk (A ++ H) i = lk H i := by rw [lk_append, h]

section
variable {P : Program} {T : Tbl} {n : Nat} {ops : Array Oper} {i : Nat} {s s' s1 : St} {d : Nat} {r : AV} {A : Own}
theorem Fresh.eqv (h : Fresh s A) (he : Eqv s s') : Fresh s' A := fun p hp => ⟨(h p hp).1, fun i a hi => (h p hp).2.1 i a (he.1 i ▸ hi), fun i ob hi => (h p hp).2.2 i ob (he.2 i ▸ hi)⟩
theorem ABase.eqv {H H1 : Own} (he : ∀ g, lk H1 g = lk H g) {e q : Nat} {a : AV} {m : Nat} {cs : List AV} {H' : Own} (h : ABase H e q a m cs H') : ∃ H1', ABase H1 e q a m cs H1' ∧ ∀ g, lk H1' g = lk H' g := by
  cases h with
  | nil => exact ⟨H1, .nil, he⟩
  | @own g _ _ _ h1 h2 =>
    refine ⟨rmv g H1, .own ((he g).trans h1) (rmv_p g H1), fun i => ?_⟩
    by_cases hi : i = g
    · subst hi; rw [(rmv_p i H1).1, h2.1]
    · rw [(rmv_p g H1).2 i hi, h2.2 i hi, he i]
theorem ASrc.eqv {H H1 : Own} (he : ∀ g, lk H1 g = lk H g) {q : Nat} {a : AV} {m : Nat} {cs : List AV} (h : ASrc H q a m cs) : ASrc H1 q a m cs := by
  cases h with
  | nil => exact .nil
  | fz h1 => exact .fz h1
  | own h1 h2 => exact .own ((he _).trans h1) h2
theorem LoudStep.eqv {o : Oper} {p : Option (Nat × AV)} {own' : Own} {F : List Nat} (h : LoudStep P T n ops i s p own' F) (ho : ops[i]? = some o) (hl : ∀ t ∈ o.looksAt ops, lk s'.t t = lk s.t t) (hown : ∀ g, lk s'.own g = lk s.own g) :
    ∃ own1, LoudStep P T n ops i s' p own1 F ∧ ∀ g, lk own1 g = lk own' g := by
  have he := ev_looks hl
  cases h with
  | @sto o' t g off x y ob us cs own' h1 h2 h3 h4 h5 h6 h7 h8 h9 h10 h11 =>
    obtain rfl : o' = o := Option.some.inj (h1.symm.trans ho)
    rw [h4] at he
    refine ⟨(g, ob.put cs) :: s'.own, .sto h1 h2 h3 h4 ((he x (by simp [Op.operands])).trans h5) ((hown g).trans h6) (by rw [he y (by simp [Op.operands])]; exact h7) h8 h9 h10 (fun _ => rfl), fun j => ?_⟩
    rw [h11, lk_cons, lk_cons, hown]
  | @app o' d t e q b k m x y cs news H' h1 h2 h3 h4 h5 h6 h7 h8 h9 h10 h11 h12 =>
    obtain rfl : o' = o := Option.some.inj (h1.symm.trans ho)
    rw [h5] at he
    obtain ⟨H1', h13, h14⟩ := h7.eqv hown
    exact ⟨_, .app h1 h2 h3 h4 h5 h6 (by rw [he x (by simp [Op.operands, Call.operands])]; exact h13) (by rw [he y (by simp [Op.operands, Call.operands])]; exact h8.eqv hown) h9 h10 h11 (fun j ob hj => h12 j ob (hown j ▸ hj)), fun g => by rw [lk_cons, lk_cons, h14]⟩
theorem OpStep.eqv (h : OpStep P T n ops i s s1) (he : Eqv s s') : ∃ s1', OpStep P T n ops i s' s1' ∧ Eqv s1 s1' := by
  obtain ⟨o, ho, ⟨d, r, A, hd, hq, hL, hf, rfl⟩ | ⟨p, own', F, hq, hp, hL, hf, rfl⟩⟩ := h.split
  · exact ⟨_, (hL.at_ ho (fun t _ => he.1 t) (.inr fun g _ => he.2 g)).step (hf.eqv he), fun j => by simp only [lk_cons, he.1], fun g => by simp only [lk_append, he.2]⟩
  · obtain ⟨own1, h1, h2⟩ := hL.eqv ho (fun t _ => he.1 t) he.2
    refine ⟨_, h1.step (fun g hg j a hj => hf g hg j a (he.1 j ▸ hj)), ?_⟩
    cases p with
    | none => exact ⟨he.1, h2⟩
    | some q =>
      obtain ⟨q1, q2⟩ := q
      exact ⟨fun j => by simp only [put?, lk_cons, he.1], h2⟩

/-- Two operations whose order does not matter. -/
def indepO (ops : Array Oper) (x y : Oper) : Bool := x.apart ops y && (pureOp x.op || pureOp y.op || (!loudOp x.op && !loudOp y.op))
/-- It makes a block. -/
def makesOp : Op → Bool
  | .box _ _ | .alloc _ | .buildSlice _ _ _ => true
  | .call { callee := .builtin .append, .. } => true
  | _ => false
theorem LocStep.makes {o : Oper} (h : LocStep P T n ops i s d r A) (ho : ops[i]? = some o) : A = [] ∨ ∃ ob, A = [(d, ob)] ∧ makesOp o.op = true := by
  cases h with
  | @loc o' _ h1 h2 h3 h4 h5 =>
    obtain rfl : o' = o := Option.some.inj (h1.symm.trans ho)
    generalize o'.op = op at h5
    cases h5 with
    | eff h =>
      cases h
      case box => exact .inr ⟨_, rfl, rfl⟩
      case alloc => exact .inr ⟨_, rfl, rfl⟩
      case bslice => exact .inr ⟨_, rfl, rfl⟩
      all_goals exact .inl rfl
    | call => exact .inl rfl
    | callB => exact .inl rfl
  | gst => exact .inl rfl
theorem LoudStep.made {o : Oper} {p : Option (Nat × AV)} {own' : Own} {F : List Nat} (h : LoudStep P T n ops i s p own' F) (ho : ops[i]? = some o) : (F = [] ∧ p = none) ∨ ∃ d a, p = some (d, a) ∧ F = [d] ∧ makesOp o.op = true ∧ NoH d s.own ∧ d < 1000 := by
  cases h with
  | sto => exact .inl ⟨rfl, rfl⟩
  | @app o' d t e q b k m x y cs news H' h1 h2 h3 h4 h5 h6 h7 h8 h9 h10 h11 h12 =>
    obtain rfl : o' = o := Option.some.inj (h1.symm.trans ho)
    exact .inr ⟨d, _, rfl, rfl, by rw [h5]; rfl, h12, h11⟩
theorem pure_quiet {op : Op} (h : pureOp op = true) : loudOp op = false := by cases op <;> first | rfl | cases h
/-- The names of blocks that are still to be made are free. -/
def Free (ops : Array Oper) (s : St) (j : Nat) : Prop := ∀ o d, ops[j]? = some o → o.dst = some d → makesOp o.op = true → NoT d s.t ∧ NoH d s.own

theorem OpStep.swap (hT : T.Ok P) {x y : Nat} {ox oy : Oper} {s2 : St} (hx : OpStep P T n ops x s s1) (hy : OpStep P T n ops y s1 s2) (hox : ops[x]? = some ox) (hoy : ops[y]? = some oy) (hi : indepO ops ox oy = true) (hF : Free ops s y) :
    ∃ s1' s2', OpStep P T n ops y s s1' ∧ OpStep P T n ops x s1' s2' ∧ Eqv s2 s2' := by
  simp only [indepO, Bool.and_eq_true, Bool.or_eq_true, Bool.not_eq_true'] at hi
  obtain ⟨hap, hk⟩ := hi
  obtain ⟨ap1, ap2, ap3⟩ := Oper.apart_spec hap
  obtain ⟨o, ho, hX⟩ := hx.split
  obtain rfl : o = ox := Option.some.inj (ho.symm.trans hox)
  obtain ⟨o', ho', hY⟩ := hy.split
  obtain rfl : o' = oy := Option.some.inj (ho'.symm.trans hoy)
  rcases hX with ⟨dx, rx, Ax, hdx, hqx, hLx, hfx, rfl⟩ | ⟨px, ownx, Fx, hqx, hpx, hLx, hfx, rfl⟩
  · have hlx : ∀ t ∈ o'.looksAt ops, lk s.t t = lk ((dx, rx) :: s.t) t := fun t ht => (lk_skip _ _ (by rintro rfl; exact ap1 _ hdx ht)).symm
    rcases hY with ⟨dy, ry, Ay, hdy, hqy, hLy, hfy, rfl⟩ | ⟨py, owny, Fy, hqy, hpy, hLy, hfy, rfl⟩
    · have hne : dx ≠ dy := by rintro rfl; exact ap2 _ hdx hdy
      have hAx : ∀ g x, (s.ev x).refs g = true → lk Ax g = none := fun g x hg => by
        cases e : lk Ax g with
        | none => rfl
        | some ob => rw [ev_refs (hfx (g, ob) (lk_mem e)).2.1 x] at hg; cases hg
      have hev : ∀ x ∈ o'.op.operands, St.ev ⟨(dx, rx) :: s.t, Ax ++ s.own⟩ x = s.ev x := ev_looks (st := s) (st' := ⟨(dx, rx) :: s.t, Ax ++ s.own⟩) (ops := ops) (fun t ht => (hlx t ht).symm)
      have hLy' : LocStep P T n ops y s dy ry Ay := hLy.at_ (st' := s) hoy hlx (.inr fun g ⟨x, hx, hg⟩ => by
        rw [hev x hx] at hg
        exact (lk_append_none (hAx g x hg)).symm)
      have hkx : ∀ g, lk Ax g ≠ none → g = dx := fun g hg => by
        rcases hLx.makes hox with rfl | ⟨ob, rfl, _⟩
        · exact absurd rfl hg
        · rw [lk_cons] at hg
          split at hg
          · rename_i e; exact e.symm
          · exact absurd rfl hg
      have hky : ∀ g, lk Ay g ≠ none → g = dy := fun g hg => by
        rcases hLy.makes hoy with rfl | ⟨ob, rfl, _⟩
        · exact absurd rfl hg
        · rw [lk_cons] at hg
          split at hg
          · rename_i e; exact e.symm
          · exact absurd rfl hg
      have hfy' : Fresh s Ay := fun p hp => by
        refine ⟨(hfy p hp).1, ?_⟩
        rcases hLy.makes hoy with rfl | ⟨ob, rfl, hm⟩
        · cases hp
        · obtain rfl : p = (dy, ob) := by simpa using hp
          exact hF _ _ hoy hdy hm
      have hAy : ∀ g x, (s.ev x).refs g = true → lk Ay g = none := fun g x hg => by
        cases e : lk Ay g with
        | none => rfl
        | some ob => rw [ev_refs (hfy' (g, ob) (lk_mem e)).2.1 x] at hg; cases hg
      have hLx' : LocStep P T n ops x ⟨(dy, ry) :: s.t, Ay ++ s.own⟩ dx rx Ax := hLx.at_ hox (fun t ht => lk_skip _ _ (by rintro rfl; exact ap3 _ hdy ht)) (.inr fun g ⟨x, _, hg⟩ => lk_append_none (hAy g x hg))
      have hfx' : Fresh ⟨(dy, ry) :: s.t, Ay ++ s.own⟩ Ax := fun p hp => by
        obtain ⟨q1, q2, q3⟩ := hfx p hp
        have hp1 : p.1 = dx := hkx p.1 (by
          rcases hLx.makes hox with rfl | ⟨ob, rfl, _⟩
          · cases hp
          · obtain rfl : p = (dx, ob) := by simpa using hp
            rw [lk_hit]; simp)
        have hn : lk Ay p.1 = none := by
          cases e : lk Ay p.1 with
          | none => rfl
          | some ob => exact absurd ((hky p.1 (by rw [e]; simp)).symm.trans hp1) (Ne.symm hne)
        obtain ⟨r1, r2⟩ := hLy'.refs hT q2 q3 hn
        refine ⟨q1, fun j a hj => ?_, fun j ob hj => ?_⟩
        · rw [lk_cons] at hj
          split at hj
          · obtain rfl := Option.some.inj hj; exact r1
          · exact q2 j a hj
        · rw [lk_append] at hj
          split at hj
          · rename_i e; obtain rfl := Option.some.inj hj; exact r2 j _ e
          · exact q3 j ob hj
      refine ⟨_, _, hLy'.step hfy', hLx'.step hfx', fun j => ?_, fun g => ?_⟩
      · simp only [lk_cons]
        by_cases h1 : dx = j
        · subst h1; simp [Ne.symm hne]
        · simp [h1]
      · simp only [lk_append]
        cases e1 : lk Ax g with
        | none => rfl
        | some ob =>
          cases e2 : lk Ay g with
          | none => rfl
          | some ob' => exact absurd ((hkx g (by rw [e1]; simp)).symm.trans (hky g (by rw [e2]; simp))) hne
    · have hp : pureOp o.op = true := by
        rcases hk with (h | h) | ⟨_, h⟩
        · exact h
        · rw [pure_quiet h] at hqy; cases hqy
        · rw [h] at hqy; cases hqy
      obtain rfl := hLx.pure hox hp
      obtain ⟨own1, h1, h2⟩ := hLy.eqv (s' := s) hoy hlx (fun g => rfl)
      have hfy' : ∀ g ∈ Fy, NoT g s.t := by
        rcases hLy.made hoy with ⟨rfl, _⟩ | ⟨d, a, rfl, rfl, hm, _⟩
        · intro g hg; cases hg
        · intro g hg
          obtain rfl : g = d := by simpa using hg
          exact (hF _ _ hoy (hpy _ rfl) hm).1
      refine ⟨_, _, h1.step hfy', (hLx.at_ (st' := put? s py own1) hox (fun t ht => ?_) (.inl hp)).step (fun _ h => by cases h), ?_⟩
      · cases py with
        | none => rfl
        | some q =>
          obtain ⟨q1, q2⟩ := q
          exact lk_skip _ _ (by rintro rfl; exact ap3 _ (hpy _ rfl) ht)
      · cases py with
        | none => exact ⟨fun j => rfl, h2⟩
        | some q =>
          obtain ⟨q1, q2⟩ := q
          have hne : dx ≠ q1 := by rintro rfl; exact ap2 _ hdx (hpy _ rfl)
          refine ⟨fun j => ?_, h2⟩
          simp only [put?, lk_cons]
          by_cases h1 : dx = j
          · subst h1; simp [Ne.symm hne]
          · simp [h1]
  · rcases hY with ⟨dy, ry, Ay, hdy, hqy, hLy, hfy, rfl⟩ | ⟨py, owny, Fy, hqy, hpy, hLy, hfy, rfl⟩
    · have hp : pureOp o'.op = true := by
        rcases hk with (h | h) | ⟨h, _⟩
        · rw [pure_quiet h] at hqx; cases hqx
        · exact h
        · rw [h] at hqx; cases hqx
      obtain rfl := hLy.pure hoy hp
      have hlx : ∀ t ∈ o'.looksAt ops, lk s.t t = lk (put? s px ownx).t t := fun t ht => by
        cases px with
        | none => rfl
        | some q =>
          obtain ⟨q1, q2⟩ := q
          exact (lk_skip _ _ (by rintro rfl; exact ap1 _ (hpx _ rfl) ht)).symm
      have hLy' : LocStep P T n ops y s dy ry [] := hLy.at_ (st' := s) hoy hlx (.inl hp)
      obtain ⟨own1, h1, h2⟩ := hLx.eqv (s' := ⟨(dy, ry) :: s.t, [] ++ s.own⟩) hox (fun t ht => lk_skip _ _ (by rintro rfl; exact ap3 _ hdy ht)) (fun g => rfl)
      have hfx' : ∀ g ∈ Fx, NoT g ((dy, ry) :: s.t) := by
        intro g hg j a hj
        rw [lk_cons] at hj
        split at hj
        · obtain rfl := Option.some.inj hj
          rcases hLx.made hox with ⟨rfl, _⟩ | ⟨d, a, _, rfl, hm, hn, _⟩
          · cases hg
          · obtain rfl : g = d := by simpa using hg
            exact (hLy'.refs hT (hfx g hg) hn rfl).1
        · exact hfx g hg j a hj
      refine ⟨_, _, hLy'.step (fun _ h => by cases h), h1.step hfx', ?_⟩
      cases px with
      | none => exact ⟨fun j => rfl, h2⟩
      | some q =>
        obtain ⟨q1, q2⟩ := q
        have hne : q1 ≠ dy := by rintro rfl; exact ap2 _ (hpx _ rfl) hdy
        refine ⟨fun j => ?_, h2⟩
        simp only [put?, lk_cons]
        by_cases h1 : q1 = j
        · subst h1; simp [Ne.symm hne]
        · simp [h1]
    · exfalso
      rcases hk with (h | h) | ⟨h, _⟩
      · rw [pure_quiet h] at hqx; cases hqx
      · rw [pure_quiet h] at hqy; cases hqy
      · rw [h] at hqx; cases hqx
end
end Go.Proofs.Ytfgiehfiieecoaa
