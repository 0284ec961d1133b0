import Derived.Test.YtmidechdlbcepaaGreatPack21
set_option linter.unusedSimpArgs false
set_option linter.unusedVariables false
namespace Go.Proofs.YtmidechdlbcepaaGreat
open Go.RowKit
def slOf {α : Type} (enc : α → List FV) (l : List α) : FV := .sl (l.flatMap enc) l.length
theorem flatMap_len {α : Type} {enc : α → List FV} {s : Nat} (hs : ∀ x, (enc x).length = s) : ∀ (l : List α), (l.flatMap enc).length = l.length * s
  | [] => by simp
  | x :: l => by rw [List.flatMap_cons, List.length_append, hs, flatMap_len hs l, List.length_cons, Nat.add_mul, Nat.one_mul, Nat.add_comm]
theorem flatMap_at {α : Type} {enc : α → List FV} {s : Nat} (hs : ∀ x, (enc x).length = s) : ∀ {l : List α} {i : Nat} {x : α}, l[i]? = some x → ((l.flatMap enc).drop (i * s)).take s = enc x
  | [], _, _, h => by simp at h
  | y :: l, 0, x, h => by
    obtain rfl := Option.some.inj h
    rw [Nat.zero_mul, List.drop_zero, List.flatMap_cons, ← hs y, List.take_left]
  | y :: l, i + 1, x, h => by
    have h' : l[i]? = some x := by simpa using h
    rw [List.flatMap_cons, Nat.add_mul, Nat.one_mul, Nat.add_comm, ← List.drop_drop, ← hs y, List.drop_left, hs y]
    exact flatMap_at hs h'

def evO (t : List (Nat × AV)) : Operand → Option AV
  | .tmp i => lk t i
  | .const (.int k n) => some (.fv (.int k n))
  | .const (.bool b) => some (.fv (.bool b))
  | .const (.slice none 0 0) => some .nil
  | .const (.string s) => match Nat.ble s.size 1000 with
    | true => some (.fv (.str s))
    | false => none
  | .func f => some (.fn f [])
  | _ => none
theorem evO_ev {st : St} {x : Operand} {r : AV} (h : evO st.t x = some r) : st.ev x = r := by
  unfold evO at h
  split at h
  · simp [St.ev, h]
  · obtain rfl := Option.some.inj h; rfl
  · obtain rfl := Option.some.inj h; rfl
  · obtain rfl := Option.some.inj h; rfl
  · split at h
    · rename_i e; obtain rfl := Option.some.inj h; simp only [St.ev, liftV, e]
    · cases h
  · obtain rfl := Option.some.inj h; rfl
  · cases h
def evL (t : List (Nat × AV)) : List Operand → Option (List AV)
  | [] => some []
  | x :: l => match evO t x with
    | some r => match evL t l with
      | some rs => some (r :: rs)
      | none => none
    | none => none
theorem evL_ev {st : St} : ∀ {l : List Operand} {rs : List AV}, evL st.t l = some rs → l.map st.ev = rs
  | [], rs, h => by obtain rfl := Option.some.inj h; rfl
  | x :: l, rs, h => by
    simp only [evL] at h
    split at h
    · rename_i r hr
      split at h
      · rename_i rs' hrs
        obtain rfl := Option.some.inj h
        simp [evO_ev hr, evL_ev hrs]
      · cases h
    · cases h

def evG (t : List (Nat × AV)) (x : Operand) : Option AV :=
  match evO t x with
  | some (.whn _ a) => some a
  | some .any => some .any
  | some .bit => some .bit
  | some (.fv f) => some (.fv f)
  | some .nil => some .nil
  | some (.fptr cs) => some (.fptr cs)
  | some (.optr g o) => some (.optr g o)
  | some (.osl g) => some (.osl g)
  | some (.osb g lo n s) => some (.osb g lo n s)
  | some (.fn f cs) => some (.fn f cs)
  | some (.agg cs) => some (.agg cs)
  | some (.tup cs) => some (.tup cs)
  | none => none
theorem evG_ev {st : St} {x : Operand} {r : AV} (h : evG st.t x = some r) : (st.ev x).strip = r := by
  unfold evG at h
  split at h <;> first
    | (rename_i e; rw [evO_ev e]; obtain rfl := Option.some.inj h; rfl)
    | cases h
def evGL (t : List (Nat × AV)) : List Operand → Option (List AV)
  | [] => some []
  | x :: l => match evG t x with
    | some r => match evGL t l with
      | some rs => some (r :: rs)
      | none => none
    | none => none
theorem evGL_ev {st : St} : ∀ {l : List Operand} {rs : List AV}, evGL st.t l = some rs → l.map (fun x => (st.ev x).strip) = rs
  | [], rs, h => by obtain rfl := Option.some.inj h; rfl
  | x :: l, rs, h => by
    simp only [evGL] at h
    split at h
    · rename_i r hr
      split at h
      · rename_i rs' hrs
        obtain rfl := Option.some.inj h
        simp [evG_ev hr, evGL_ev hrs]
      · cases h
    · cases h
def gokAll (c : Prop) (st : St) : List Operand → Prop
  | [] => True
  | x :: l => gok c (st.ev x) ∧ gokAll c st l
theorem gokAll_mem {c : Prop} {st : St} : ∀ {l : List Operand}, gokAll c st l → ∀ x ∈ l, gok c (st.ev x)
  | [], _, x, hx => by cases hx
  | y :: l, h, x, hx => by
    rcases List.mem_cons.1 hx with rfl | hx
    · exact h.1
    · exact gokAll_mem h.2 x hx

section
variable {P : Program} {T : Tbl} {ρ : Operand → AV} {H : Own} {d : Nat} {st : St} {r : AV}
theorem Eff.mvG {x : Operand} (h : evG st.t x = some r) : Eff T (fun x => (st.ev x).strip) H d (.move x) r [] := by
  have := Eff.move (T := T) (ρ := fun x => (st.ev x).strip) (H := H) (d := d) (x := x)
  simp only [evG_ev h] at this
  exact this
theorem Eff.mv {x : Operand} (h : evO st.t x = some r) : Eff T st.ev H d (.move x) r [] := by rw [← evO_ev h]; exact .move
theorem Eff.asg {x : Operand} (h : evO st.t x = some r) : Eff T st.ev H d (.assign x) r [] := by rw [← evO_ev h]; exact .assign
theorem I64.wrap {n : Int} (h1 : -9223372036854775808 ≤ n) (h2 : n ≤ 9223372036854775807) : IntKind.i64.wrap n = n := IntWalk.i64_in n ⟨h1, h2⟩
theorem Eff.add64 {t u : Nat} {x y : Operand} {a b : Int} (h1 : ρ x = .fv (.int .i64 a)) (h2 : ρ y = .fv (.int .i64 b)) (h3 : -9223372036854775808 ≤ a + b) (h4 : a + b ≤ 9223372036854775807) : Eff T ρ H d (.binOp .add t x y u) (.fv (.int .i64 (a + b))) [] := by
  have := Eff.bin (T := T) (H := H) (d := d) (op := .add) (t := t) (u := u) h1 h2 rfl
  rwa [I64.wrap h3 h4] at this
theorem Eff.sub64 {t u : Nat} {x y : Operand} {a b : Int} (h1 : ρ x = .fv (.int .i64 a)) (h2 : ρ y = .fv (.int .i64 b)) (h3 : -9223372036854775808 ≤ a - b) (h4 : a - b ≤ 9223372036854775807) : Eff T ρ H d (.binOp .sub t x y u) (.fv (.int .i64 (a - b))) [] := by
  have := Eff.bin (T := T) (H := H) (d := d) (op := .sub) (t := t) (u := u) h1 h2 rfl
  rwa [I64.wrap h3 h4] at this
theorem Eff.mul64 {t u : Nat} {x y : Operand} {a b : Int} (h1 : ρ x = .fv (.int .i64 a)) (h2 : ρ y = .fv (.int .i64 b)) (h3 : -9223372036854775808 ≤ a * b) (h4 : a * b ≤ 9223372036854775807) : Eff T ρ H d (.binOp .mul t x y u) (.fv (.int .i64 (a * b))) [] := by
  have := Eff.bin (T := T) (H := H) (d := d) (op := .mul) (t := t) (u := u) h1 h2 rfl
  rwa [I64.wrap h3 h4] at this
theorem Eff.quo64 {t u : Nat} {x y : Operand} {a b : Int} (h1 : ρ x = .fv (.int .i64 a)) (h2 : ρ y = .fv (.int .i64 b)) (h3 : 0 ≤ a) (h4 : a ≤ 9223372036854775807) (h5 : 0 < b) : Eff T ρ H d (.binOp .quo t x y u) (.fv (.int .i64 (a / b))) [] := by
  have := Eff.quo (T := T) (H := H) (d := d) (t := t) (u := u) h1 h2 (by omega)
  rw [Int.tdiv_eq_ediv_of_nonneg h3] at this
  have h6 : 0 ≤ a / b := Int.ediv_nonneg h3 (by omega)
  have h7 : a / b ≤ a := Int.ediv_le_self b h3
  rwa [I64.wrap (by omega) (by omega)] at this
theorem Eff.rem64 {t u : Nat} {x y : Operand} {a b : Int} (h1 : ρ x = .fv (.int .i64 a)) (h2 : ρ y = .fv (.int .i64 b)) (h3 : 0 ≤ a) (h5 : 0 < b) : Eff T ρ H d (.binOp .rem t x y u) (.fv (.int .i64 (a % b))) [] := by
  have := Eff.rem (T := T) (H := H) (d := d) (t := t) (u := u) h1 h2 (by omega)
  rwa [Int.tmod_eq_emod_of_nonneg h3] at this
theorem Eff.idxS {α : Type} {enc : α → List FV} {t : Nat} {x y : Operand} {l : List α} {e s b : Nat} {k : IntKind} {i : Nat} {u : α} (h1 : ρ x = .fv (slOf enc l)) (h2 : ρ y = .fv (.int k i)) (h3 : lk T.sli t = some (e, s, b)) (hs : ∀ x, (enc x).length = s) (hu : l[i]? = some u) :
    Eff T ρ H d (.indexAddr t x y) (.fptr (enc u)) [] := by
  have hlt := (List.getElem?_eq_some_iff.1 hu).1
  have := Eff.idxF (T := T) (H := H) (d := d) h1 h2 h3 (by omega) (by omega) (flatMap_len hs l)
  rw [Int.toNat_natCast, flatMap_at hs hu] at this
  exact this
end

mutual
def AV.names : AV → List Nat
  | .optr g _ => [g]
  | .osl g => [g]
  | .osb g _ _ _ => [g]
  | .fn _ cs => AV.namesL cs
  | .agg cs => AV.namesL cs
  | .tup cs => AV.namesL cs
  | .whn _ a => a.names
  | _ => []
def AV.namesL : List AV → List Nat
  | [] => []
  | a :: as => a.names ++ AV.namesL as
end
mutual
theorem AV.names_refs {g : Nat} : ∀ {a : AV}, a.refs g = true → g ∈ a.names
  | .optr h _, e => by simp only [AV.refs] at e; simp [AV.names, Nat.eq_of_beq_eq_true e]
  | .osl h, e => by simp only [AV.refs] at e; simp [AV.names, Nat.eq_of_beq_eq_true e]
  | .osb h _ _ _, e => by simp only [AV.refs] at e; simp [AV.names, Nat.eq_of_beq_eq_true e]
  | .fn _ cs, e => AV.namesL_refs (as := cs) (by simpa [AV.refs] using e)
  | .agg cs, e => AV.namesL_refs (as := cs) (by simpa [AV.refs] using e)
  | .tup cs, e => AV.namesL_refs (as := cs) (by simpa [AV.refs] using e)
  | .whn _ a, e => AV.names_refs (a := a) (by simpa [AV.refs] using e)
  | .any, e => by cases e
  | .bit, e => by cases e
  | .fv _, e => by cases e
  | .nil, e => by cases e
  | .fptr _, e => by cases e
theorem AV.namesL_refs {g : Nat} : ∀ {as : List AV}, AV.refsL g as = true → g ∈ AV.namesL as
  | [], e => by cases e
  | a :: as, e => by
    simp only [AV.refsL, Bool.or_eq_true] at e
    simp only [AV.namesL, List.mem_append]
    exact e.imp AV.names_refs AV.namesL_refs
end
def xN (t : List (Nat × AV)) (x : Operand) : List Nat := match evO t x with
  | some a => a.names
  | none => []
def opN (t : List (Nat × AV)) (op : Op) : List Nat := match pureOp op with
  | true => []
  | false => op.operands.toList.flatMap (xN t)
theorem xN_refs {st : St} {x : Operand} {g : Nat} (h : (st.ev x).refs g = true) : g ∈ xN st.t x := by
  unfold xN
  cases e : evO st.t x with
  | some a => rw [evO_ev e] at h; exact AV.names_refs h
  | none =>
    exfalso
    cases x with
    | tmp t =>
      have e : lk st.t t = none := e
      simp only [St.ev, e] at h
      cases h
    | const v => rw [show st.ev (.const v) = liftV v from rfl, liftV_refs] at h; cases h
    | func f => cases e
    | global q => cases h
theorem opN_refs {st : St} {op : Op} {g : Nat} (h : ∃ x ∈ op.operands, (st.ev x).refs g = true) : pureOp op = true ∨ g ∈ opN st.t op := by
  unfold opN
  cases e : pureOp op with
  | true => exact .inl rfl
  | false =>
    obtain ⟨x, hx, hr⟩ := h
    exact .inr (List.mem_flatMap.2 ⟨x, by simpa using hx, xN_refs hr⟩)
def baseN : AV → List Nat
  | .osl g => [g]
  | _ => []
def only (R : List Nat) : Own → Own
  | [] => []
  | (k, x) :: l => match R.contains k with
    | true => (k, x) :: only R l
    | false => only R l
theorem lk_only {R : List Nat} {g : Nat} : ∀ (H : Own), lk (only R H) g = if g ∈ R then lk H g else none
  | [] => by simp [only, lk]
  | (k, x) :: l => by
    simp only [only]
    cases e : R.contains k with
    | true =>
      simp only [lk_cons, lk_only l]
      split
      · rename_i e'; subst e'; simp at e; simp [e]
      · rfl
    | false =>
      simp only [lk_cons, lk_only l]
      split
      · split
        · rename_i e'; subst e'; simp at e; rename_i h; exact absurd h e
        · rfl
      · rfl
theorem lk_mapSome {g : Nat} : ∀ (A : Own), lk (A.map fun p => (p.1, some p.2)) g = (lk A g).map some
  | [] => rfl
  | (k, x) :: l => by
    simp only [List.map_cons, lk_cons, lk_mapSome l]
    split <;> rfl
theorem lk_none_of {α : Type} {g : Nat} : ∀ {A : List (Nat × α)}, g ∉ A.map (·.1) → lk A g = none
  | [], _ => rfl
  | (k, x) :: l, h => by
    simp only [List.map_cons, List.mem_cons, not_or] at h
    rw [lk_skip _ _ (Ne.symm h.1)]
    exact lk_none_of h.2

section
variable {P : Program} {T : Tbl} {n i : Nat} {ops : Array Oper} {st : St} {o : Oper} {d : Nat} {r : AV} {A : Own}
theorem ev_looks_refs {g : Nat} (h : ∀ t ∈ o.looksAt ops, ∀ a, lk st.t t = some a → a.refs g = false) : ∀ x ∈ o.op.operands, (st.ev x).refs g = false := by
  intro x hx
  cases x with
  | tmp t =>
    show ((lk st.t t).getD .any).refs g = false
    cases e : lk st.t t with
    | none => rfl
    | some a => exact h t (List.mem_append_left _ (List.mem_filterMap.2 ⟨.tmp t, by simpa using hx, rfl⟩)) a e
  | const v => exact liftV_refs g v
  | func f => rfl
  | global _ => rfl
theorem noH_only {g : Nat} {R : List Nat} {H : Own} (h : ∀ k ∈ R, ∀ ob, lk H k = some ob → AV.refsL g ob.cells = false) : NoH g (only R H) := fun k ob hk => by
  rw [lk_only] at hk
  split at hk
  · rename_i hR; exact h k hR ob hk
  · cases hk
theorem Step.loc (ho : ops[i]? = some o) (hg : o.guard = none) (hd : o.dst = some d) (hn : d < n) (hE : LEff P T st.ev st.own d o.op r A) (hf : Fresh st A) : Step P T n ops i ⟨opN st.t o.op, A.map (·.1), A.map (·.1)⟩ st ⟨(d, r) :: st.t, A ++ st.own⟩ := by
  intro hT
  have hL : LocStep P T n ops i st d r A := .loc ho hg hd hn hE
  refine ⟨o, some (d, r), A.map fun p => (p.1, some p.2), ho, ⟨fun s2 s2' e1 e2 hf2 hi => ?_, fun g e1 e2 e3 _ => ?_, fun q hq => (by obtain rfl := Option.some.inj hq; exact hd), fun k x hk => ?_, fun g hg => hg⟩, fun g hg => ?_, ⟨fun _ => rfl, fun g => ?_⟩⟩
  · have h2 : LocStep P T n ops i s2 d r A := hL.at_ ho e1 (by
      rcases Bool.eq_false_or_eq_true (pureOp o.op) with h | h
      · exact .inl h
      · exact .inr fun g hx => e2 g ((opN_refs hx).resolve_left (by rw [h]; simp)))
    refine (h2.step fun p hp => ⟨(hf p hp).1, hf2 p.1 (List.mem_map.2 ⟨p, hp, rfl⟩)⟩).sem hT ⟨fun j => hi.1 j, fun g => ?_⟩
    rw [hi.2, lk_append]
    unfold eff
    rw [lk_mapSome]
    cases lk A g <;> rfl
  · have hA : lk A g = none := lk_none_of e3
    have key : r.refs g = false ∧ NoH g A := by
      rcases Bool.eq_false_or_eq_true (pureOp o.op) with h | h
      · exact ((hE.pure h []).1).refs hT (ev_looks_refs e1) (noH_nil g) hA
      · exact (hE.own (H' := only (opN st.t o.op) st.own) fun k hx => by rw [lk_only, if_pos ((opN_refs hx).resolve_left (by rw [h]; simp))]).refs hT (ev_looks_refs e1) (noH_only e2) hA
    refine ⟨fun q hq => by obtain rfl := Option.some.inj hq; exact key.1, fun k ob hk => ?_⟩
    rw [lk_mapSome] at hk
    cases e : lk A k with
    | none => rw [e] at hk; cases hk
    | some x => rw [e] at hk; simp at hk; subst hk; exact key.2 k x e
  · show k ∈ A.map (·.1)
    rw [lk_mapSome] at hk
    cases e : lk A k with
    | none => rw [e] at hk; cases hk
    | some x => exact List.mem_map.2 ⟨(k, x), lk_mem e, rfl⟩
  · obtain ⟨p, hp, rfl⟩ := List.mem_map.1 hg
    exact (hf p hp).2
  · show lk (A ++ st.own) g = _
    rw [lk_append]
    unfold eff
    rw [lk_mapSome]
    cases lk A g <;> rfl
theorem Step.gst {oj : Oper} {j t : Nat} {want : Bool} {c : Prop} {ag : AV} {ρ : Operand → AV} (ho : ops[i]? = some o) (h2 : o.guard = some (j, want)) (hd : o.dst = some d) (h4 : d < n) (h5 : ops[j]? = some oj) (h6 : oj.dst = some t) (h7 : t < n) (h8 : lk st.t t = some ag) (hgv : GVal want ag c)
    (h9 : c → (∀ x ∈ o.op.operands, Und c (st.ev x) (ρ x)) ∧ LEff P T ρ st.own d o.op r []) (h10 : r.sub (o.op.operands.toList.map st.ev) = true) (h11 : loudOp o.op = false) : Step P T n ops i ⟨opN st.t o.op, [], []⟩ st ⟨(d, .whn c r) :: st.t, st.own⟩ := by
  intro hT
  have hL : LocStep P T n ops i st d (.whn c r) [] := .gst ho h2 hd h4 h5 h6 h7 h8 hgv h9 h10 h11 rfl
  refine ⟨o, some (d, .whn c r), [], ho, ⟨fun s2 s2' e1 e2 hf2 hi => ?_, fun g e1 e2 e3 _ => ?_, fun q hq => (by obtain rfl := Option.some.inj hq; exact hd), fun k x hk => (by cases hk), fun g hg => hg⟩, fun g hg => (by cases hg), ⟨fun _ => rfl, fun g => rfl⟩⟩
  · have h2 : LocStep P T n ops i s2 d (.whn c r) [] := hL.at_ ho e1 (by
      rcases Bool.eq_false_or_eq_true (pureOp o.op) with h | h
      · exact .inl h
      · exact .inr fun g hx => e2 g ((opN_refs hx).resolve_left (by rw [h]; simp)))
    exact (h2.step fun p hp => by cases hp).sem hT ⟨fun j => hi.1 j, fun g => hi.2 g⟩
  · refine ⟨fun q hq => ?_, fun k ob hk => (by cases hk)⟩
    obtain rfl := Option.some.inj hq
    exact AV.sub_refs (a := .whn c r) (fun a ha => by obtain ⟨x, hx, rfl⟩ := List.mem_map.1 ha; exact ev_looks_refs e1 x (by simpa using hx)) h10
theorem Step.sto {t g off : Nat} {x y : Operand} {ob : OB} {us cs : List AV} {own' : Own} (ho : ops[i]? = some o) (h2 : o.guard = none) (h3 : o.dst = none) (h4 : o.op = .store t x y) (h5 : st.ev x = .optr g off) (h6 : lk st.own g = some ob) (h7 : cells1 (st.ev y) = some us) (h8 : onesB us = true) (h9 : sizeB T t us.length = true) (h10 : setC ob.cells off us = some cs) (h11 : ∀ i, lk own' i = lk ((g, ob.put cs) :: st.own) i) :
    Step P T n ops i ⟨[g], [g], []⟩ st ⟨st.t, own'⟩ := by
  intro hT
  refine ⟨o, none, [(g, some (ob.put cs))], ho, ⟨fun s2 s2' e1 e2 hf2 hi => ?_, fun k e1 e2 e3 _ => ?_, fun q hq => (by cases hq), fun k x hk => ?_, fun g hg => (by cases hg)⟩, fun g hg => (by cases hg), ⟨fun _ => rfl, fun k => ?_⟩⟩
  · have he := ev_looks (st := st) (st' := s2) e1
    rw [h4] at he
    have hs : OpStep P T n ops i s2 ⟨s2.t, (g, ob.put cs) :: s2.own⟩ := .sto ho h2 h3 h4 ((he x (by simp [Op.operands])).trans h5) ((e2 g (by simp)).trans h6) (by rw [he y (by simp [Op.operands])]; exact h7) h8 h9 h10 (fun _ => rfl)
    refine hs.sem hT ⟨fun j => hi.1 j, fun k => ?_⟩
    rw [hi.2]
    rw [eff_cons, lk_cons]
    rfl
  · refine ⟨fun q hq => (by cases hq), fun k' ob' hk => ?_⟩
    rw [lk_cons] at hk
    split at hk
    · simp only [Option.some.injEq] at hk
      subst hk
      rw [show (ob.put cs).cells = cs from by cases ob <;> rfl]
      obtain ⟨_, rfl⟩ := setC_eq h10
      have h12 := e2 g (by simp) ob h6
      have h13 := ev_looks_refs e1
      rw [h4] at h13
      exact refsL_append (refsL_append (refsL_take _ h12) (cells1_refs h7 (h13 y (by simp [Op.operands])))) (refsL_drop _ h12)
    · cases hk
  · rw [lk_cons] at hk
    split at hk
    · rename_i e; subst e; simp
    · cases hk
  · show lk own' k = _
    rw [h11]
    rw [eff_cons, lk_cons]
    rfl
theorem Step.app {t e s b k m : Nat} {x y : Operand} {cs news : List AV} {H' : Own} (ho : ops[i]? = some o) (h2 : o.guard = none) (hd : o.dst = some d) (h4 : d < n) (h5 : o.op = .call { callee := .builtin .append, args := #[x, y], argTypes := #[t, t] }) (h6 : lk T.sli t = some (e, s, b))
    (hB : ABase st.own e s (st.ev x) k cs H') (hS : ASrc st.own s (st.ev y) m news) (h9 : k + m ≤ maxLen) (h10 : (k + m) * b ≤ 140737488355328) (hf : Fresh st [(d, .row e s (k + m) (cs ++ news))]) :
    Step P T n ops i ⟨baseN (st.ev x) ++ baseN (st.ev y), d :: baseN (st.ev x), [d]⟩ st ⟨(d, .osl d) :: st.t, (d, .row e s (k + m) (cs ++ news)) :: H'⟩ := by
  intro hT
  obtain ⟨hlow, hnT, hnH⟩ := hf (d, .row e s (k + m) (cs ++ news)) (by simp)
  have hbase : ∀ s2 : St, s2.ev x = st.ev x → (∀ g ∈ baseN (st.ev x), lk s2.own g = lk st.own g) → ABase s2.own e s (s2.ev x) k cs (appD ((baseN (st.ev x)).map fun g => (g, none)) s2.own) := by
    intro s2 hx hl
    rw [hx]
    generalize st.ev x = ax at hB hl
    cases hB with
    | nil => exact .nil
    | @own g _ _ _ hg _ => exact .own ((hl g (by simp [baseN])).trans hg) (rmv_p g _)
  have hsrc : ∀ s2 : St, s2.ev y = st.ev y → (∀ g ∈ baseN (st.ev y), lk s2.own g = lk st.own g) → ASrc s2.own s (s2.ev y) m news := by
    intro s2 hy hl
    rw [hy]
    generalize st.ev y = ay at hS hl
    cases hS with
    | nil => exact .nil
    | fz h => exact .fz h
    | @own g _ _ _ hg h1 => exact .own ((hl g (by simp [baseN])).trans hg) h1
  have hH' : ∀ g, lk H' g = lk (appD ((baseN (st.ev x)).map fun g => (g, none)) st.own) g := by
    intro g
    generalize st.ev x = ax at hB
    cases hB with
    | nil => rfl
    | @own g0 _ _ _ hg hr =>
      simp only [baseN, List.map_cons, List.map_nil, appD]
      rw [lk_rmv]
      split
      · rename_i e; subst e; exact hr.1
      · rename_i e; exact hr.2 g (Ne.symm e)
  refine ⟨o, some (d, .osl d), (d, some (.row e s (k + m) (cs ++ news))) :: (baseN (st.ev x)).map fun g => (g, none), ho, ⟨fun s2 s2' e1 e2 hf2 hi => ?_, fun g e1 e2 e3 _ => ?_, fun q hq => (by obtain rfl := Option.some.inj hq; exact hd), fun q z hk => ?_, fun g hg => (by simp at hg; simp [hg])⟩, fun g hg => ?_, ⟨fun _ => rfl, fun g => ?_⟩⟩
  · have he := ev_looks (st := st) (st' := s2) e1
    rw [h5] at he
    have hx := he x (by simp [Op.operands, Call.operands])
    have hy := he y (by simp [Op.operands, Call.operands])
    have hs : OpStep P T n ops i s2 _ := .app ho h2 hd h4 h5 h6 (hbase s2 hx fun g hg => e2 g (List.mem_append_left _ hg)) (hsrc s2 hy fun g hg => e2 g (List.mem_append_right _ hg)) h9 h10 (fun p hp => by simp at hp; subst hp; exact ⟨hlow, hf2 d (by simp)⟩)
    refine hs.sem hT ⟨fun j => hi.1 j, fun g => ?_⟩
    rw [hi.2, eff_cons, lk_cons, lk_app]
  · have h13 := ev_looks_refs e1
    rw [h5] at h13
    have hx := h13 x (by simp [Op.operands, Call.operands])
    have hy := h13 y (by simp [Op.operands, Call.operands])
    refine ⟨fun q hq => ?_, fun q ob hk => ?_⟩
    · obtain rfl := Option.some.inj hq
      simp only [AV.refs]
      cases e : Nat.beq d g with
      | false => rfl
      | true => exact absurd (Nat.eq_of_beq_eq_true e) (by intro e; subst e; simp at e3)
    · rw [lk_cons] at hk
      split at hk
      · simp only [Option.some.injEq] at hk
        subst hk
        refine refsL_append ?_ ?_
        · generalize st.ev x = ax at hB hx e2
          cases hB with
          | nil => rfl
          | @own g0 _ _ _ hg _ => exact e2 g0 (by simp [baseN]) _ hg
        · generalize st.ev y = ay at hS hy e2
          cases hS with
          | nil => rfl
          | fz _ => exact refsL_fv _
          | @own g0 _ _ _ hg _ => exact e2 g0 (by simp [baseN]) _ hg
      · have : ∀ (l : List Nat), lk (l.map fun g => (g, (none : Option OB))) q ≠ some (some ob) := by
          intro l
          induction l with
          | nil => simp [lk]
          | cons a l ih =>
            simp only [List.map_cons, lk_cons]
            split
            · simp
            · exact ih
        exact absurd hk (this _)
  · rw [lk_cons] at hk
    split at hk
    · rename_i e; subst e; simp
    · obtain ⟨y', hy'⟩ : ∃ y, (q, y) ∈ (baseN (st.ev x)).map fun g => (g, (none : Option OB)) := ⟨z, lk_mem hk⟩
      simp only [List.mem_map, Prod.mk.injEq] at hy'
      obtain ⟨a, ha, rfl, _⟩ := hy'
      simp [ha]
  · simp at hg
    subst hg
    exact ⟨hnT, hnH⟩
  · show lk ((d, _) :: H') g = _
    rw [eff_cons, lk_cons, hH', lk_app]
end

section
variable {P : Program} {T : Tbl} {n i : Nat} {ops : Array Oper} {l : List Oper} {fps : List Fp} {K : St → Prop} {t : List (Nat × AV)} {H A : Own} {o : Oper} {d : Nat} {r : AV}
theorem Ops.loc (hg : o.guard = none) (hd : o.dst = some d) (hn : Nat.blt d n = true) (hE : LEff P T (St.ev ⟨t, H⟩) H d o.op r []) (hK : OpsL P T n ops (i + 1) l fps K ⟨(d, r) :: t, H⟩) : OpsL P T n ops i (o :: l) (⟨opN t o.op, [], []⟩ :: fps) K ⟨t, H⟩ :=
  ⟨_, _, rfl, fun ho => ⟨_, .loc ho hg hd (by simpa [Nat.blt_eq] using hn) hE (fun _ h => by cases h), hK.out⟩⟩
theorem Ops.new {g : Nat} {ob : OB} (hg : o.guard = none) (hd : o.dst = some d) (hn : Nat.blt d n = true) (hE : LEff P T (St.ev ⟨t, H⟩) H d o.op r [(g, ob)]) (hf : freshB ⟨t, H⟩ [(g, ob)] = true) (hK : OpsL P T n ops (i + 1) l fps K ⟨(d, r) :: t, (g, ob) :: H⟩) : OpsL P T n ops i (o :: l) (⟨opN t o.op, [g], [g]⟩ :: fps) K ⟨t, H⟩ :=
  ⟨_, _, rfl, fun ho => ⟨_, .loc ho hg hd (by simpa [Nat.blt_eq] using hn) hE (freshB_mem hf), hK.out⟩⟩
theorem Ops.gst {oj : Oper} {j tj : Nat} {want : Bool} {ag : AV} {c : Prop} (hg : o.guard = some (j, want)) (hd : o.dst = some d) (hn : Nat.blt d n = true) (hj : ops[j]? = some oj) (hdj : oj.dst = some tj) (hnj : Nat.blt tj n = true) (hb : lk t tj = some ag) (hgv : GVal want ag c)
    (hgo : c → gokAll c ⟨t, H⟩ o.op.operands.toList) (hE : c → LEff P T (fun x => (St.ev ⟨t, H⟩ x).strip) H d o.op r []) (hf : r.sub (o.op.operands.toList.map (St.ev ⟨t, H⟩)) = true) (hq : loudOp o.op = false) (hK : OpsL P T n ops (i + 1) l fps K ⟨(d, .whn c r) :: t, H⟩) : OpsL P T n ops i (o :: l) (⟨opN t o.op, [], []⟩ :: fps) K ⟨t, H⟩ :=
  ⟨_, _, rfl, fun ho => ⟨_, .gst ho hg hd (by simpa [Nat.blt_eq] using hn) hj hdj (by simpa [Nat.blt_eq] using hnj) hb hgv (fun h => ⟨fun x hx => .strip (gokAll_mem (hgo h) x (by simpa using hx)), hE h⟩) hf hq, hK.out⟩⟩
theorem Ops.gand {oj : Oper} {j tj : Nat} {want b b' : Bool} {ag : AV} {c c1 c2 : Prop} {q x : Operand} (hg : o.guard = some (j, want)) (hd : o.dst = some d) (hn : Nat.blt d n = true) (hj : ops[j]? = some oj) (hdj : oj.dst = some tj) (hnj : Nat.blt tj n = true) (hb : lk t tj = some ag) (hgv : GVal want ag c)
    (hop : o.op = .pick q x (.const (.bool false))) (h1 : evO t q = some (.whn c1 (.fv (.bool b)))) (h2 : evO t x = some (.whn c2 (.fv (.bool b')))) (hxq : q ≠ x) (h4 : c → c1) (h5 : c → (c2 ↔ b = true)) (hK : OpsL P T n ops (i + 1) l fps K ⟨(d, .whn c (.fv (.bool (b && b')))) :: t, H⟩) : OpsL P T n ops i (o :: l) (⟨opN t o.op, [], []⟩ :: fps) K ⟨t, H⟩ := by
  refine ⟨_, _, rfl, fun ho => ?_⟩
  classical
  have e1 := evO_ev (st := ⟨t, H⟩) h1
  have e2 := evO_ev (st := ⟨t, H⟩) h2
  by_cases hcn : c
  · refine ⟨_, .gst (st := ⟨t, H⟩) (ρ := fun z => if z = x then .whn (b = true) (.fv (.bool b')) else if z = q then .fv (.bool b) else (St.ev ⟨t, H⟩ z)) ho hg hd (by simpa [Nat.blt_eq] using hn) hj hdj (by simpa [Nat.blt_eq] using hnj) hb hgv (fun hc => ⟨fun z hz => ?_, ?_⟩) rfl (by rw [hop]; rfl), hK.out⟩
    · by_cases hzx : z = x
      · subst hzx
        simp only [if_true, e2]
        exact .part h5
      · by_cases hzq : z = q
        · subst hzq
          simp only [hzx, if_false, if_true, e1]
          exact .strip (a := .whn c1 (.fv (.bool b))) h4
        · simp only [hzx, hzq, if_false]; exact .refl _
    · rw [hop]
      have h6 : (Operand.const (Value.bool false)) ≠ x := by rintro rfl; simp [evO] at h2
      have h7 : (Operand.const (Value.bool false)) ≠ q := by rintro rfl; simp [evO] at h1
      have hA : (if q = x then AV.whn (b = true) (.fv (.bool b')) else if q = q then .fv (.bool b) else (St.ev ⟨t, H⟩ q)) = .fv (.bool b) := by simp [hxq]
      have hB : (if x = x then AV.whn (b = true) (.fv (.bool b')) else if x = q then .fv (.bool b) else (St.ev ⟨t, H⟩ x)) = .whn (b = true) (.fv (.bool b')) := by simp
      have hC : (if (Operand.const (Value.bool false)) = x then AV.whn (b = true) (.fv (.bool b')) else if (Operand.const (Value.bool false)) = q then .fv (.bool b) else (St.ev ⟨t, H⟩ (Operand.const (Value.bool false)))) = .fv (.bool false) := by simp [h6, h7, St.ev, liftV]
      exact .eff (.and hA hB hC)
  · exact ⟨_, .gst (st := ⟨t, H⟩) (ρ := fun _ => .any) ho hg hd (by simpa [Nat.blt_eq] using hn) hj hdj (by simpa [Nat.blt_eq] using hnj) hb hgv (fun hc => absurd hc hcn) rfl (by rw [hop]; rfl), hK.out⟩
theorem Ops.gor {oj : Oper} {j tj : Nat} {want b b' : Bool} {ag : AV} {c c1 c2 : Prop} {q x : Operand} (hg : o.guard = some (j, want)) (hd : o.dst = some d) (hn : Nat.blt d n = true) (hj : ops[j]? = some oj) (hdj : oj.dst = some tj) (hnj : Nat.blt tj n = true) (hb : lk t tj = some ag) (hgv : GVal want ag c)
    (hop : o.op = .pick q (.const (.bool true)) x) (h1 : evO t q = some (.whn c1 (.fv (.bool b)))) (h2 : evO t x = some (.whn c2 (.fv (.bool b')))) (hxq : q ≠ x) (h4 : c → c1) (h5 : c → (c2 ↔ b = false)) (hK : OpsL P T n ops (i + 1) l fps K ⟨(d, .whn c (.fv (.bool (b || b')))) :: t, H⟩) : OpsL P T n ops i (o :: l) (⟨opN t o.op, [], []⟩ :: fps) K ⟨t, H⟩ := by
  refine ⟨_, _, rfl, fun ho => ?_⟩
  classical
  have e1 := evO_ev (st := ⟨t, H⟩) h1
  have e2 := evO_ev (st := ⟨t, H⟩) h2
  by_cases hcn : c
  · refine ⟨_, .gst (st := ⟨t, H⟩) (ρ := fun z => if z = x then .whn (b = false) (.fv (.bool b')) else if z = q then .fv (.bool b) else (St.ev ⟨t, H⟩ z)) ho hg hd (by simpa [Nat.blt_eq] using hn) hj hdj (by simpa [Nat.blt_eq] using hnj) hb hgv (fun hc => ⟨fun z hz => ?_, ?_⟩) rfl (by rw [hop]; rfl), hK.out⟩
    · by_cases hzx : z = x
      · subst hzx
        simp only [if_true, e2]
        exact .part h5
      · by_cases hzq : z = q
        · subst hzq
          simp only [hzx, if_false, if_true, e1]
          exact .strip (a := .whn c1 (.fv (.bool b))) h4
        · simp only [hzx, hzq, if_false]; exact .refl _
    · rw [hop]
      have h6 : (Operand.const (Value.bool true)) ≠ x := by rintro rfl; simp [evO] at h2
      have h7 : (Operand.const (Value.bool true)) ≠ q := by rintro rfl; simp [evO] at h1
      have hA : (if q = x then AV.whn (b = false) (.fv (.bool b')) else if q = q then .fv (.bool b) else (St.ev ⟨t, H⟩ q)) = .fv (.bool b) := by simp [hxq]
      have hB : (if x = x then AV.whn (b = false) (.fv (.bool b')) else if x = q then .fv (.bool b) else (St.ev ⟨t, H⟩ x)) = .whn (b = false) (.fv (.bool b')) := by simp
      have hC : (if (Operand.const (Value.bool true)) = x then AV.whn (b = false) (.fv (.bool b')) else if (Operand.const (Value.bool true)) = q then .fv (.bool b) else (St.ev ⟨t, H⟩ (Operand.const (Value.bool true)))) = .fv (.bool true) := by simp [h6, h7, St.ev, liftV]
      exact .eff (.or hA hC hB)
  · exact ⟨_, .gst (st := ⟨t, H⟩) (ρ := fun _ => .any) ho hg hd (by simpa [Nat.blt_eq] using hn) hj hdj (by simpa [Nat.blt_eq] using hnj) hb hgv (fun hc => absurd hc hcn) rfl (by rw [hop]; rfl), hK.out⟩
theorem Ops.nil {st : St} (h : K st) : OpsL P T n ops i [] [] K st := ⟨rfl, h⟩
theorem LEff.callL {f : Operand} {args : Array Operand} {ts : Array TypeId} {fid : FuncId} {cs as0 as : List AV} (h1 : evO t f = some (.fn fid cs)) (h2 : evL t args.toList = some as0) (h3 : as0 ++ cs = as) (h4 : Fun P fid as r) (h5 : r.flat = true) :
    LEff P T (St.ev ⟨t, H⟩) H d (.call { callee := .value f, args := args, argTypes := ts }) r [] :=
  .call (evO_ev (st := ⟨t, H⟩) h1) (by rw [evL_ev (st := ⟨t, H⟩) h2, h3]; exact .refl _) h4 h5
theorem LEff.callG {f : Operand} {args : Array Operand} {ts : Array TypeId} {fid : FuncId} {cs as0 as : List AV} (h1 : evG t f = some (.fn fid cs)) (h2 : evGL t args.toList = some as0) (h3 : as0 ++ cs = as) (h4 : Fun P fid as r) (h5 : r.flat = true) :
    LEff P T (fun x => (St.ev ⟨t, H⟩ x).strip) H d (.call { callee := .value f, args := args, argTypes := ts }) r [] :=
  .call (evG_ev (st := ⟨t, H⟩) h1) (by rw [evGL_ev (st := ⟨t, H⟩) h2, h3]; exact .refl _) h4 h5
theorem WP.condT {c : Operand} {x y : Code} {Q : Exit → St → Prop} {st : St} (hc : st.ev c = .fv (.bool true)) (h : WP P n x Q st) : WP P n (.cond c x y) Q st := .cond hc (fun _ => h) (fun e => by cases e)
theorem WP.condF {c : Operand} {x y : Code} {Q : Exit → St → Prop} {st : St} (hc : st.ev c = .fv (.bool false)) (h : WP P n y Q st) : WP P n (.cond c x y) Q st := .cond hc (fun e => by cases e) (fun _ => h)
theorem thenQ.nor {next : St → Prop} {Q : Exit → St → Prop} {s : St} (h : next s) : thenQ next Q .normal s := h
theorem thenQ.ex {next : St → Prop} {Q : Exit → St → Prop} {s : St} {i : Nat} (h : Q (.exit i) s) : thenQ next Q (.exit i) s := h
theorem thenQ.ret {next : St → Prop} {Q : Exit → St → Prop} {s : St} (h : Q .ret s) : thenQ next Q .ret s := h
theorem blockQ.nor {Q : Exit → St → Prop} {s : St} {id : Nat} (h : Q .normal s) : blockQ id Q .normal s := h
theorem blockQ.ret {Q : Exit → St → Prop} {s : St} {id : Nat} (h : Q .ret s) : blockQ id Q .ret s := h
theorem blockQ.hit {Q : Exit → St → Prop} {s : St} {i id : Nat} (e : Nat.beq i id = true) (h : Q .normal s) : blockQ id Q (.exit i) s := by simp only [blockQ, e]; exact h
theorem blockQ.out {Q : Exit → St → Prop} {s : St} {i id : Nat} (e : Nat.beq i id = false) (h : Q (.exit i) s) : blockQ id Q (.exit i) s := by simp only [blockQ, e]; exact h
theorem WP.reg {id : Nat} {Q : Exit → St → Prop} {st : St} (hT : T.Ok P) (hl : ops.toList = l) (h : OpsL P T n ops 0 l fps (Q .normal) st) : WP P n (.region id ops false) Q st := .region (OpsL.all hT (by rw [hl]; exact h))
theorem Ops.some_ {F : Nat → Fp} : ∀ (l : List Nat) {st : St}, Ops P n ops F l K st → ∃ s, K s
  | [], st, h => ⟨st, h⟩
  | _ :: l, _, ⟨_, _, h⟩ => Ops.some_ l h
theorem Ops.mono_ {F : Nat → Fp} {K' : St → Prop} (hk : ∀ s, K s → K' s) : ∀ (l : List Nat) {st : St}, Ops P n ops F l K st → Ops P n ops F l K' st
  | [], _, h => hk _ h
  | _ :: l, _, ⟨s, h1, h2⟩ => ⟨s, h1, Ops.mono_ hk l h2⟩
def drwK (ops : Array Oper) (fps : List Fp) (st : St) (K : St → Prop) (s : St) : Prop := okF ops fps = true ∧ freeF fps st = true ∧ K s
theorem drwK.mk {st s : St} (h1 : okF ops fps = true) (h2 : freeF fps st = true) (h : K s) : drwK ops fps st K s := ⟨h1, h2, h⟩
theorem WP.drwL {id : Nat} {Q : Exit → St → Prop} {st : St} (hT : T.Ok P) (hm : P.follows .mixedOrders = true) (hl : ops.toList = l) (h : OpsL P T n ops 0 l fps (drwK ops fps st (Q .normal)) st) : WP P n (.region id ops true) Q st := by
  have h1 := OpsL.all hT (by rw [hl]; exact h)
  obtain ⟨_, h2, h3, _⟩ := Ops.some_ _ h1
  exact .drw hm h2 h3 (Ops.mono_ (fun s hs => hs.2.2) _ h1)
end
end Go.Proofs.YtmidechdlbcepaaGreat
namespace Go.Proofs.YtmidechdlbcepaaGreat
open Go.RowKit
structure Mx where
  field : Int
  mask : Int
  value : Int
structure Dx where
  kind : Int
  a : Int
  n : Int
structure Fl where
  table : Int
  prio : Int
  ms : List Mx
  ds : List Dx
def encMx (m : Mx) : List FV := [.int .i64 m.field, .int .i64 m.mask, .int .i64 m.value]
def encDx (d : Dx) : List FV := [.int .i64 d.kind, .int .i64 d.a, .int .i64 d.n]
def encFl (f : Fl) : List FV := [.int .i64 f.table, .int .i64 f.prio, slOf encMx f.ms, slOf encDx f.ds]
def encFr (f : Fr) : List FV := [.int .i64 f.dst, .int .i64 f.src, .int .i64 f.kind, .int .i64 f.ipSrc, .int .i64 f.ipDst, .int .i64 f.ttl, .int .i64 f.port, .str f.body]
def encPk (p : Pk) : List FV := [.int .i64 p.f0, .int .i64 p.f1, .int .i64 p.f2, .int .i64 p.f3, .int .i64 p.f4, .int .i64 p.f5, .int .i64 p.f6, .int .i64 p.f7, .int .i64 p.f8, .int .i64 p.f9, .str p.body]
theorem encMx_len (m : Mx) : (encMx m).length = 3 := rfl
theorem encDx_len (m : Dx) : (encDx m).length = 3 := rfl
theorem encFl_len (m : Fl) : (encFl m).length = 4 := rfl

def dxMay (d : Dx) (table : Int) (last : Bool) : Bool :=
  if d.kind = 1 then inR d.a 0 9 && word d.n
  else if d.kind = 2 then inR d.a 0 9 && inR d.n 0 9
  else if d.kind = 3 then inR d.a 0 9 && decide (d.n = 0)
  else if d.kind = 4 then decide (d.a = 0) && inR d.n (table + 1) 7 && last
  else if d.kind = 5 then decide (d.a = 0) && word d.n
  else if d.kind = 6 then decide (d.a = 0) && inR d.n 0 5
  else false
def maskd (n m : Int) : Int := ((n.toNat &&& m.toNat : Nat) : Int)
def mxOk (m : Mx) : Bool := inR m.field 0 9 && word m.mask && word m.value && decide (maskd m.value m.mask = m.value)
def dxOk (table : Int) : List Dx → Bool
  | [] => true
  | d :: l => dxMay d table l.isEmpty && dxOk table l
def flFault (f : Fl) : Int :=
  if 12 < f.ms.length ∨ 100 < f.ds.length then 1
  else if inR f.table 0 7 = false ∨ inR f.prio 0 2000 = false then 2
  else if f.ms.all mxOk = false then 4
  else if dxOk f.table f.ds = false then 4
  else 0
def flsFault : List Fl → Int
  | [] => 0
  | f :: l => if flFault f = 0 then flsFault l else flFault f
def flowsFault (l : List Fl) : Int := if 5000 < l.length then 1 else flsFault l

theorem flsFault_at {l : List Fl} {k : Nat} {f : Fl} (hk : l[k]? = some f) (h : flsFault l = flsFault (l.drop k)) : flsFault l = if flFault f = 0 then flsFault (l.drop (k + 1)) else flFault f := by
  rw [h]
  have hlt := (List.getElem?_eq_some_iff.1 hk).1
  have : l.drop k = f :: l.drop (k + 1) := by rw [List.drop_eq_getElem_cons hlt, (List.getElem?_eq_some_iff.1 hk).2]
  rw [this, flsFault]
theorem dxOk_at {t : Int} {l : List Dx} {k : Nat} {d : Dx} (hk : l[k]? = some d) : dxOk t (l.drop k) = (dxMay d t (decide (k + 1 = l.length)) && dxOk t (l.drop (k + 1))) := by
  have hlt := (List.getElem?_eq_some_iff.1 hk).1
  have e : l.drop k = d :: l.drop (k + 1) := by rw [List.drop_eq_getElem_cons hlt, (List.getElem?_eq_some_iff.1 hk).2]
  rw [e, dxOk]
  congr 2
  rw [Bool.eq_iff_iff]
  simp [List.isEmpty_iff, List.drop_eq_nil_iff]
  omega
def mx3 (m : Mx) : List Int := [m.field, m.mask, m.value]
def dx3 (d : Dx) : List Int := [d.kind, d.a, d.n]
def numsOf (f : Fl) : List Int := [(f.ms.length : Int), (f.ds.length : Int)] ++ f.ms.flatMap mx3 ++ f.ds.flatMap dx3
def cmpI (a b : Int) : Int := if a < b then -1 else if b < a then 1 else 0
def cmpL : List Int → List Int → Int
  | [], [] => 0
  | [], _ :: _ => -1
  | _ :: _, [] => 1
  | a :: l, b :: m => if cmpI a b ≠ 0 then cmpI a b else cmpL l m
def keyOf (f : Fl) : List Int := f.table :: (-f.prio) :: numsOf f
def ordF (x y : Fl) : Int := cmpL (keyOf x) (keyOf y)
theorem cmpI_neg (a b : Int) : cmpI b a = -cmpI a b := by unfold cmpI; repeat' split; all_goals omega
theorem cmpI_eq {a b : Int} : cmpI a b = 0 ↔ a = b := by unfold cmpI; repeat' split; all_goals omega
theorem cmpI_swap (a b : Int) : cmpI (-a) (-b) = cmpI b a := by unfold cmpI; repeat' split; all_goals omega
theorem cmpL_refl : ∀ l : List Int, cmpL l l = 0
  | [] => rfl
  | a :: l => by
    have h : cmpI a a = 0 := cmpI_eq.2 rfl
    rw [cmpL, if_neg (by omega), cmpL_refl l]
theorem cmpL_eq : ∀ {l m : List Int}, cmpL l m = 0 → l = m
  | [], [], _ => rfl
  | [], _ :: _, h => by simp [cmpL] at h
  | _ :: _, [], h => by simp [cmpL] at h
  | a :: l, b :: m, h => by
    unfold cmpL at h
    split at h
    · omega
    · rename_i h2
      have e : cmpI a b = 0 := by omega
      rw [cmpI_eq.1 e, cmpL_eq h]
theorem cmpL_neg : ∀ (l m : List Int), cmpL m l = -cmpL l m
  | [], [] => rfl
  | [], _ :: _ => rfl
  | _ :: _, [] => rfl
  | a :: l, b :: m => by
    have h := cmpI_neg a b
    unfold cmpL
    by_cases h0 : cmpI a b = 0
    · rw [if_neg (by omega), if_neg (by omega), cmpL_neg l m]
    · rw [if_pos (by omega), if_pos (by omega), h]
theorem cmpI_lt {a b : Int} : cmpI a b < 0 ↔ a < b := by
  unfold cmpI
  by_cases h : a < b
  · rw [if_pos h]; omega
  · rw [if_neg h]
    split <;> omega
theorem cmpI_trans {a b c : Int} (h1 : cmpI a b < 0) (h2 : cmpI b c < 0) : cmpI a c < 0 := by
  rw [cmpI_lt] at *
  omega
theorem cmpL_trans : ∀ {l m n : List Int}, cmpL l m < 0 → cmpL m n < 0 → cmpL l n < 0
  | [], [], _, h, _ => by simp [cmpL] at h
  | _ :: _, [], _, h, _ => by simp [cmpL] at h
  | _, _ :: _, [], _, h => by simp [cmpL] at h
  | [], _ :: _, _ :: _, _, _ => by simp [cmpL]
  | a :: l, b :: m, c :: n, h1, h2 => by
    unfold cmpL at h1 h2 ⊢
    by_cases e1 : cmpI a b = 0
    · obtain rfl := cmpI_eq.1 e1
      rw [if_neg (by omega)] at h1
      by_cases e2 : cmpI a c = 0
      · rw [if_neg (by omega)] at h2 ⊢
        exact cmpL_trans h1 h2
      · rw [if_pos e2] at h2 ⊢
        exact h2
    · rw [if_pos e1] at h1
      by_cases e2 : cmpI b c = 0
      · obtain rfl := cmpI_eq.1 e2
        rw [if_pos e1]
        exact h1
      · rw [if_pos e2] at h2
        have := cmpI_trans h1 h2
        rw [if_pos (by omega)]
        exact this
theorem flat_inj {α : Type} {f : α → List Int} {s : Nat} (hl : ∀ x, (f x).length = s) (hi : ∀ x y, f x = f y → x = y) : ∀ {l m : List α}, l.length = m.length → l.flatMap f = m.flatMap f → l = m
  | [], [], _, _ => rfl
  | [], _ :: _, h, _ => by simp at h
  | _ :: _, [], h, _ => by simp at h
  | x :: l, y :: m, h, e => by
    rw [List.flatMap_cons, List.flatMap_cons] at e
    obtain ⟨e1, e2⟩ := List.append_inj e (by rw [hl, hl])
    rw [hi x y e1, flat_inj hl hi (by simpa using h) e2]
theorem flat_len {α : Type} {f : α → List Int} {s : Nat} (hl : ∀ x, (f x).length = s) : ∀ l : List α, (l.flatMap f).length = s * l.length
  | [] => by simp
  | x :: l => by rw [List.flatMap_cons, List.length_append, hl, flat_len hl l, List.length_cons, Nat.mul_add]; omega
theorem keyOf_inj {x y : Fl} (h : keyOf x = keyOf y) : x = y := by
  obtain ⟨t, p, ms, ds⟩ := x
  obtain ⟨t', p', ms', ds'⟩ := y
  unfold keyOf numsOf at h
  simp only [List.cons_append, List.nil_append, List.cons.injEq] at h
  obtain ⟨rfl, hp, hm, hd, h⟩ := h
  have hm : ms.length = ms'.length := by omega
  have hd : ds.length = ds'.length := by omega
  obtain ⟨e1, e2⟩ := List.append_inj h (by rw [flat_len (s := 3) (fun _ => rfl), flat_len (s := 3) (fun _ => rfl), hm])
  have e3 := flat_inj (s := 3) (fun _ => rfl) (fun a b e => by cases a; cases b; simp [mx3] at e; simp [e]) hm e1
  have e4 := flat_inj (s := 3) (fun _ => rfl) (fun a b e => by cases a; cases b; simp [dx3] at e; simp [e]) hd e2
  rw [e3, e4, show p = p' by omega]
theorem ordF_refl (x : Fl) : ordF x x = 0 := cmpL_refl _
theorem ordF_eq {x y : Fl} : ordF x y = 0 ↔ x = y := ⟨fun h => keyOf_inj (cmpL_eq h), fun h => h ▸ ordF_refl x⟩
theorem ordF_neg (x y : Fl) : ordF y x = -ordF x y := cmpL_neg _ _
theorem ordF_trans {x y z : Fl} (h1 : ordF x y < 0) (h2 : ordF y z < 0) : ordF x z < 0 := cmpL_trans h1 h2
theorem ordF_le {x y z : Fl} (h1 : ordF x y ≤ 0) (h2 : ordF y z ≤ 0) : ordF x z ≤ 0 := by
  rcases Int.lt_or_eq_of_le h1 with h1 | h1
  · rcases Int.lt_or_eq_of_le h2 with h2 | h2
    · exact Int.le_of_lt (ordF_trans h1 h2)
    · rw [← ordF_eq.1 h2]; omega
  · rw [ordF_eq.1 h1]; exact h2
theorem sorted_uniq : ∀ {l m : List Fl}, l.Perm m → l.Pairwise (fun x y => ordF x y ≤ 0) → m.Pairwise (fun x y => ordF x y ≤ 0) → l = m
  | [], m, h, _, _ => (List.Perm.nil_eq h)
  | x :: l, [], h, _, _ => by simpa using h.symm.nil_eq
  | x :: l, y :: m, h, h1, h2 => by
    obtain ⟨h3, h4⟩ := List.pairwise_cons.1 h1
    obtain ⟨h5, h6⟩ := List.pairwise_cons.1 h2
    have e : x = y := by
      rcases List.mem_cons.1 (h.mem_iff.1 (List.mem_cons_self)) with e | hx
      · exact e
      · rcases List.mem_cons.1 (h.mem_iff.2 (List.mem_cons_self)) with e | hy
        · exact e.symm
        · have a1 := h5 x hx
          have a2 := h3 y hy
          have a3 := ordF_neg x y
          exact ordF_eq.1 (by omega)
    subst e
    rw [sorted_uniq (List.Perm.cons_inv h) h4 h6]
def StrictF (l : List Fl) : Prop := l.Pairwise fun x y => ordF x y < 0
theorem strict_uniq : ∀ {l m : List Fl}, (∀ x, x ∈ l ↔ x ∈ m) → StrictF l → StrictF m → l = m
  | [], [], _, _, _ => rfl
  | [], y :: m, h, _, _ => by have := (h y).2 (by simp); simp at this
  | x :: l, [], h, _, _ => by have := (h x).1 (by simp); simp at this
  | x :: l, y :: m, h, h1, h2 => by
    obtain ⟨h3, h4⟩ := List.pairwise_cons.1 h1
    obtain ⟨h5, h6⟩ := List.pairwise_cons.1 h2
    have e : x = y := by
      rcases List.mem_cons.1 ((h x).1 (by simp)) with e | hx
      · exact e
      · rcases List.mem_cons.1 ((h y).2 (by simp)) with e | hy
        · exact e.symm
        · have a1 := h5 x hx
          have a2 := h3 y hy
          have a3 := ordF_neg x y
          omega
    subst e
    rw [strict_uniq (l := l) (m := m) (fun z => ?_) h4 h6]
    constructor
    · intro hz
      rcases List.mem_cons.1 ((h z).1 (by simp [hz])) with rfl | h7
      · have := h3 z hz
        rw [ordF_refl] at this
        omega
      · exact h7
    · intro hz
      rcases List.mem_cons.1 ((h z).2 (by simp [hz])) with rfl | h7
      · have := h5 z hz
        rw [ordF_refl] at this
        omega
      · exact h7
def sortF (l : List Fl) : List Fl := l.mergeSort (fun x y => decide (ordF x y ≤ 0))
theorem sortF_perm (l : List Fl) : (sortF l).Perm l := List.mergeSort_perm _ _
theorem sortF_sorted (l : List Fl) : (sortF l).Pairwise fun x y => ordF x y ≤ 0 := by
  have := List.pairwise_mergeSort (le := fun x y : Fl => decide (ordF x y ≤ 0)) (fun x y z h1 h2 => by
    simp only [decide_eq_true_eq] at *
    exact ordF_le h1 h2) (fun x y => by
    have := ordF_neg x y
    simp only [Bool.or_eq_true, decide_eq_true_eq]
    omega) l
  exact this.imp (fun h => by simpa using h)
def compA : Fl → List Fl → List Fl
  | _, [] => []
  | p, x :: l => if ordF x p = 0 then compA x l else x :: compA x l
def compF : List Fl → List Fl
  | [] => []
  | x :: l => x :: compA x l
theorem compA_mem : ∀ {l : List Fl} {p x : Fl}, x ∈ p :: compA p l ↔ x ∈ p :: l
  | [], p, x => by simp [compA]
  | y :: l, p, x => by
    have ih := compA_mem (l := l) (p := y) (x := x)
    unfold compA
    split
    · rename_i h
      obtain rfl := ordF_eq.1 h
      rw [ih]
      simp
    · simp only [List.mem_cons] at ih ⊢
      rw [ih]
theorem compA_strict : ∀ {l : List Fl} {p : Fl}, (p :: l).Pairwise (fun x y => ordF x y ≤ 0) → StrictF (p :: compA p l)
  | [], p, _ => List.pairwise_singleton _ _
  | y :: l, p, h => by
    obtain ⟨h1, h2⟩ := List.pairwise_cons.1 h
    have ih := compA_strict h2
    unfold compA
    split
    · rename_i e
      obtain rfl := ordF_eq.1 e
      exact ih
    · rename_i e
      refine List.pairwise_cons.2 ⟨fun z hz => ?_, ih⟩
      have a1 := h1 y (by simp)
      have a2 := ordF_neg p y
      have a3 : ordF p y < 0 := by omega
      rcases List.mem_cons.1 hz with rfl | hz
      · exact a3
      · exact ordF_trans a3 ((List.pairwise_cons.1 ih).1 z hz)
theorem compF_mem {l : List Fl} {x : Fl} : x ∈ compF l ↔ x ∈ l := by
  cases l with
  | nil => rfl
  | cons y l => exact compA_mem
theorem compF_strict {l : List Fl} (h : l.Pairwise (fun x y => ordF x y ≤ 0)) : StrictF (compF l) := by
  cases l with
  | nil => exact .nil
  | cons y l => exact compA_strict h
def sortedF (l : List Fl) : List Fl := compF (sortF l)
theorem sortedF_mem {l : List Fl} {x : Fl} : x ∈ sortedF l ↔ x ∈ l := by rw [sortedF, compF_mem, (sortF_perm l).mem_iff]
theorem sortedF_strict (l : List Fl) : StrictF (sortedF l) := compF_strict (sortF_sorted l)
theorem sortedF_is {l m : List Fl} (h : ∀ x, x ∈ m ↔ x ∈ l) (hs : StrictF m) : m = sortedF l := strict_uniq (fun x => (h x).trans sortedF_mem.symm) hs (sortedF_strict l)
theorem sortedF_id {l : List Fl} (h : StrictF l) : sortedF l = l := (sortedF_is (fun _ => Iff.rfl) h).symm
def hasF (b : List Fl) (x : Fl) : Bool := b.any fun g => ordF x g == 0
theorem hasF_iff {b : List Fl} {x : Fl} : hasF b x = true ↔ x ∈ b := by
  simp only [hasF, List.any_eq_true, beq_iff_eq]
  exact ⟨fun ⟨g, hg, e⟩ => ordF_eq.1 e ▸ hg, fun h => ⟨x, h, ordF_refl x⟩⟩
theorem StrictF.filter {l : List Fl} (h : StrictF l) (p : Fl → Bool) : StrictF (l.filter p) := h.sublist (List.filter_sublist)
def leftF (a b : List Fl) : List Fl := (sortedF a).filter fun x => !hasF b x
theorem leftF_mem {a b : List Fl} {x : Fl} : x ∈ leftF a b ↔ x ∈ a ∧ x ∉ b := by
  rw [leftF, List.mem_filter, sortedF_mem]
  have := @hasF_iff b x
  cases h : hasF b x <;> simp [h] at this ⊢ <;> simp [this]
def patchF (l come gone : List Fl) : List Fl := sortedF (leftF l gone ++ come)
theorem patch_lead {a b : List Fl} (_ha : StrictF a) (hb : StrictF b) : patchF a (leftF b a) (leftF a b) = b := by
  refine (sortedF_is (fun x => ?_) hb).symm
  rw [List.mem_append, leftF_mem, leftF_mem, leftF_mem]
  by_cases h1 : x ∈ a <;> by_cases h2 : x ∈ b <;> simp [h1, h2]
theorem left_none (b : List Fl) : leftF b b = [] := by
  apply List.eq_nil_iff_forall_not_mem.2
  intro x hx
  obtain ⟨h1, h2⟩ := leftF_mem.1 hx
  exact h2 h1
theorem filter_len {α : Type} (p : α → Bool) : ∀ l : List α, (l.filter p).length + (l.filter fun x => !p x).length = l.length
  | [] => rfl
  | x :: l => by
    have := filter_len p l
    cases h : p x <;> simp [h] <;> omega
theorem left_len {a b : List Fl} (ha : StrictF a) (hb : StrictF b) : a.length + (leftF b a).length = b.length + (leftF a b).length := by
  have h1 := filter_len (hasF b) a
  have h2 := filter_len (hasF a) b
  have e1 : leftF a b = a.filter fun x => !hasF b x := by rw [leftF, sortedF_id ha]
  have e2 : leftF b a = b.filter fun x => !hasF a x := by rw [leftF, sortedF_id hb]
  have e3 : a.filter (hasF b) = b.filter (hasF a) := strict_uniq (fun x => by
    rw [List.mem_filter, List.mem_filter, hasF_iff, hasF_iff]
    exact And.comm) (ha.filter _) (hb.filter _)
  rw [e1, e2]
  rw [e3] at h1
  omega
end Go.Proofs.YtmidechdlbcepaaGreat