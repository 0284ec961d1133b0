/- A logic of memory: the steps of a walk. -/
import Derived.Test.YtdbbmjdeeenlhaaL13
namespace Go.Proofs.Ytdbbmjdeeenlhaa
open Go.RowKit

/-- Data of many elements, each of some cells. -/
def slOf {α : Type} (enc : α → List FV) (l : List α) : FV := .sl (l.flatMap enc) l.length
theorem flatMap_len {α : Type} {enc : α → List FV} {s : Nat} (hs : ∀ x, (enc x).length = s) : ∀ (l : List α), (l.flatMap enc).length = l.length * s
  | [] => by simp
  | x :: l => by rw [List.flatMap_cons, List.length_append, hs, flatMap_len hs l, List.length_cons, Nat.add_mul, Nat.one_mul, Nat.add_comm]
theorem flatMap_at {α : Type} {enc : α → List FV} {s : Nat} (hs : ∀ x, (enc x).length = s) : ∀ {l : List α} {i : Nat} {x : α}, l[i]? = some x → ((l.flatMap enc).drop (i * s)).take s = enc x
  | [], _, _, h => by simp at h
  | y :: l, 0, x, h => by
    obtain rfl := Option.some.inj h
    rw [Nat.zero_mul, List.drop_zero, List.flatMap_cons, ← hs y, List.take_left]
  | y :: l, i + 1, x, h => by
    have h' : l[i]? = some x := by simpa using h
    rw [List.flatMap_cons, Nat.add_mul, Nat.one_mul, Nat.add_comm, ← List.drop_drop, ← hs y, List.drop_left, hs y]
    exact flatMap_at hs h'

/-- An operand's value, if it is known. -/
def evO (t : List (Nat × AV)) : Operand → Option AV
  | .tmp i => lk t i
  | .const (.int k n) => some (.fv (.int k n))
  | .const (.bool b) => some (.fv (.bool b))
  | .const (.slice none 0 0) => some .nil
  | .const (.string s) => match Nat.ble s.size 1000 with
    | true => some (.fv (.str s))
    | false => none
  | .func f => some (.fn f [])
  | _ => none
theorem evO_ev {st : St} {x : Operand} {r : AV} (h : evO st.t x = some r) : st.ev x = r := by
  unfold evO at h
  split at h
  · simp [St.ev, h]
  · obtain rfl := Option.some.inj h; rfl
  · obtain rfl := Option.some.inj h; rfl
  · obtain rfl := Option.some.inj h; rfl
  · split at h
    · rename_i e; obtain rfl := Option.some.inj h; simp only [St.ev, liftV, e]
    · cases h
  · obtain rfl := Option.some.inj h; rfl
  · cases h
def evL (t : List (Nat × AV)) : List Operand → Option (List AV)
  | [] => some []
  | x :: l => match evO t x with
    | some r => match evL t l with
      | some rs => some (r :: rs)
      | none => none
    | none => none
theorem evL_ev {st : St} : ∀ {l : List Operand} {rs : List AV}, evL st.t l = some rs → l.map st.ev = rs
  | [], rs, h => by obtain rfl := Option.some.inj h; rfl
  | x :: l, rs, h => by
    simp only [evL] at h
    split at h
    · rename_i r hr
      split at h
      · rename_i rs' hrs
        obtain rfl := Option.some.inj h
        simp [evO_ev hr, evL_ev hrs]
      · cases h
    · cases h

/-- The same under a condition. -/
def evG (t : List (Nat × AV)) (x : Operand) : Option AV :=
  match evO t x with
  | some (.whn _ a) => some a
  | some .any => some .any
  | some .bit => some .bit
  | some (.fv f) => some (.fv f)
  | some .nil => some .nil
  | some (.fptr cs) => some (.fptr cs)
  | some (.optr g o) => some (.optr g o)
  | some (.osl g) => some (.osl g)
  | some (.osb g lo n s) => some (.osb g lo n s)
  | some (.fn f cs) => some (.fn f cs)
  | some (.agg cs) => some (.agg cs)
  | some (.tup cs) => some (.tup cs)
  | none => none
theorem evG_ev {st : St} {x : Operand} {r : AV} (h : evG st.t x = some r) : (st.ev x).strip = r := by
  unfold evG at h
  split at h <;> first
    | (rename_i e; rw [evO_ev e]; obtain rfl := Option.some.inj h; rfl)
    | cases h
def evGL (t : List (Nat × AV)) : List Operand → Option (List AV)
  | [] => some []
  | x :: l => match evG t x with
    | some r => match evGL t l with
      | some rs => some (r :: rs)
      | none => none
    | none => none
theorem evGL_ev {st : St} : ∀ {l : List Operand} {rs : List AV}, evGL st.t l = some rs → l.map (fun x => (st.ev x).strip) = rs
  | [], rs, h => by obtain rfl := Option.some.inj h; rfl
  | x :: l, rs, h => by
    simp only [evGL] at h
    split at h
    · rename_i r hr
      split at h
      · rename_i rs' hrs
        obtain rfl := Option.some.inj h
        simp [evG_ev hr, evGL_ev hrs]
      · cases h
    · cases h
def gokAll (c : Prop) (st : St) : List Operand → Prop
  | [] => True
  | x :: l => gok c (st.ev x) ∧ gokAll c st l
theorem gokAll_mem {c : Prop} {st : St} : ∀ {l : List Operand}, gokAll c st l → ∀ x ∈ l, gok c (st.ev x)
  | [], _, x, hx => by cases hx
  | y :: l, h, x, hx => by
    rcases List.mem_cons.1 hx with rfl | hx
    · exact h.1
    · exact gokAll_mem h.2 x hx

section
variable {P : Program} {T : Tbl} {ρ : Operand → AV} {H : Own} {d : Nat} {st : St} {r : AV}
theorem Eff.mvG {x : Operand} (h : evG st.t x = some r) : Eff T (fun x => (st.ev x).strip) H d (.move x) r [] := by
  have := Eff.move (T := T) (ρ := fun x => (st.ev x).strip) (H := H) (d := d) (x := x)
  simp only [evG_ev h] at this
  exact this
theorem Eff.mv {x : Operand} (h : evO st.t x = some r) : Eff T st.ev H d (.move x) r [] := by rw [← evO_ev h]; exact .move
theorem Eff.asg {x : Operand} (h : evO st.t x = some r) : Eff T st.ev H d (.assign x) r [] := by rw [← evO_ev h]; exact .assign
theorem I64.wrap {n : Int} (h1 : -9223372036854775808 ≤ n) (h2 : n ≤ 9223372036854775807) : IntKind.i64.wrap n = n := IntWalk.i64_in n ⟨h1, h2⟩
theorem Eff.add64 {t u : Nat} {x y : Operand} {a b : Int} (h1 : ρ x = .fv (.int .i64 a)) (h2 : ρ y = .fv (.int .i64 b)) (h3 : -9223372036854775808 ≤ a + b) (h4 : a + b ≤ 9223372036854775807) : Eff T ρ H d (.binOp .add t x y u) (.fv (.int .i64 (a + b))) [] := by
  have := Eff.bin (T := T) (H := H) (d := d) (op := .add) (t := t) (u := u) h1 h2 rfl
  rwa [I64.wrap h3 h4] at this
theorem Eff.sub64 {t u : Nat} {x y : Operand} {a b : Int} (h1 : ρ x = .fv (.int .i64 a)) (h2 : ρ y = .fv (.int .i64 b)) (h3 : -9223372036854775808 ≤ a - b) (h4 : a - b ≤ 9223372036854775807) : Eff T ρ H d (.binOp .sub t x y u) (.fv (.int .i64 (a - b))) [] := by
  have := Eff.bin (T := T) (H := H) (d := d) (op := .sub) (t := t) (u := u) h1 h2 rfl
  rwa [I64.wrap h3 h4] at this
theorem Eff.mul64 {t u : Nat} {x y : Operand} {a b : Int} (h1 : ρ x = .fv (.int .i64 a)) (h2 : ρ y = .fv (.int .i64 b)) (h3 : -9223372036854775808 ≤ a * b) (h4 : a * b ≤ 9223372036854775807) : Eff T ρ H d (.binOp .mul t x y u) (.fv (.int .i64 (a * b))) [] := by
  have := Eff.bin (T := T) (H := H) (d := d) (op := .mul) (t := t) (u := u) h1 h2 rfl
  rwa [I64.wrap h3 h4] at this
theorem Eff.quo64 {t u : Nat} {x y : Operand} {a b : Int} (h1 : ρ x = .fv (.int .i64 a)) (h2 : ρ y = .fv (.int .i64 b)) (h3 : 0 ≤ a) (h4 : a ≤ 9223372036854775807) (h5 : 0 < b) : Eff T ρ H d (.binOp .quo t x y u) (.fv (.int .i64 (a / b))) [] := by
  have := Eff.quo (T := T) (H := H) (d := d) (t := t) (u := u) h1 h2 (by omega)
  rw [Int.tdiv_eq_ediv_of_nonneg h3] at this
  have h6 : 0 ≤ a / b := Int.ediv_nonneg h3 (by omega)
  have h7 : a / b ≤ a := Int.ediv_le_self b h3
  rwa [I64.wrap (by omega) (by omega)] at this
theorem Eff.rem64 {t u : Nat} {x y : Operand} {a b : Int} (h1 : ρ x = .fv (.int .i64 a)) (h2 : ρ y = .fv (.int .i64 b)) (h3 : 0 ≤ a) (h5 : 0 < b) : Eff T ρ H d (.binOp .rem t x y u) (.fv (.int .i64 (a % b))) [] := by
  have := Eff.rem (T := T) (H := H) (d := d) (t := t) (u := u) h1 h2 (by omega)
  rwa [Int.tmod_eq_emod_of_nonneg h3] at this
/-- An element of many. -/
theorem Eff.idxS {α : Type} {enc : α → List FV} {t : Nat} {x y : Operand} {l : List α} {e s b : Nat} {k : IntKind} {i : Nat} {u : α} (h1 : ρ x = .fv (slOf enc l)) (h2 : ρ y = .fv (.int k i)) (h3 : lk T.sli t = some (e, s, b)) (hs : ∀ x, (enc x).length = s) (hu : l[i]? = some u) :
    Eff T ρ H d (.indexAddr t x y) (.fptr (enc u)) [] := by
  have hlt := (List.getElem?_eq_some_iff.1 hu).1
  have := Eff.idxF (T := T) (H := H) (d := d) h1 h2 h3 (by omega) (by omega) (flatMap_len hs l)
  rw [Int.toNat_natCast, flatMap_at hs hu] at this
  exact this
end

mutual
/-- The blocks that a value names. -/
def AV.names : AV → List Nat
  | .optr g _ => [g]
  | .osl g => [g]
  | .osb g _ _ _ => [g]
  | .fn _ cs => AV.namesL cs
  | .agg cs => AV.namesL cs
  | .tup cs => AV.namesL cs
  | .whn _ a => a.names
  | _ => []
def AV.namesL : List AV → List Nat
  | [] => []
  | a :: as => a.names ++ AV.namesL as
end
mutual
theorem AV.names_refs {g : Nat} : ∀ {a : AV}, a.refs g = true → g ∈ a.names
  | .optr h _, e => by simp only [AV.refs] at e; simp [AV.names, Nat.eq_of_beq_eq_true e]
  | .osl h, e => by simp only [AV.refs] at e; simp [AV.names, Nat.eq_of_beq_eq_true e]
  | .osb h _ _ _, e => by simp only [AV.refs] at e; simp [AV.names, Nat.eq_of_beq_eq_true e]
  | .fn _ cs, e => AV.namesL_refs (as := cs) (by simpa [AV.refs] using e)
  | .agg cs, e => AV.namesL_refs (as := cs) (by simpa [AV.refs] using e)
  | .tup cs, e => AV.namesL_refs (as := cs) (by simpa [AV.refs] using e)
  | .whn _ a, e => AV.names_refs (a := a) (by simpa [AV.refs] using e)
  | .any, e => by cases e
  | .bit, e => by cases e
  | .fv _, e => by cases e
  | .nil, e => by cases e
  | .fptr _, e => by cases e
theorem AV.namesL_refs {g : Nat} : ∀ {as : List AV}, AV.refsL g as = true → g ∈ AV.namesL as
  | [], e => by cases e
  | a :: as, e => by
    simp only [AV.refsL, Bool.or_eq_true] at e
    simp only [AV.namesL, List.mem_append]
    exact e.imp AV.names_refs AV.namesL_refs
end
def xN (t : List (Nat × AV)) (x : Operand) : List Nat := match evO t x with
  | some a => a.names
  | none => []
def opN (t : List (Nat × AV)) (op : Op) : List Nat := match pureOp op with
  | true => []
  | false => op.operands.toList.flatMap (xN t)
theorem xN_refs {st : St} {x : Operand} {g : Nat} (h : (st.ev x).refs g = true) : g ∈ xN st.t x := by
  unfold xN
  cases e : evO st.t x with
  | some a => rw [evO_ev e] at h; exact AV.names_refs h
  | none =>
    exfalso
    cases x with
    | tmp t =>
      have e : lk st.t t = none := e
      simp only [St.ev, e] at h
      cases h
    | const v => rw [show st.ev (.const v) = liftV v from rfl, liftV_refs] at h; cases h
    | func f => cases e
    | global q => cases h
theorem opN_refs {st : St} {op : Op} {g : Nat} (h : ∃ x ∈ op.operands, (st.ev x).refs g = true) : pureOp op = true ∨ g ∈ opN st.t op := by
  unfold opN
  cases e : pureOp op with
  | true => exact .inl rfl
  | false =>
    obtain ⟨x, hx, hr⟩ := h
    exact .inr (List.mem_flatMap.2 ⟨x, by simpa using hx, xN_refs hr⟩)
def baseN : AV → List Nat
  | .osl g => [g]
  | _ => []
/-- Blocks of these names alone. -/
def only (R : List Nat) : Own → Own
  | [] => []
  | (k, x) :: l => match R.contains k with
    | true => (k, x) :: only R l
    | false => only R l
theorem lk_only {R : List Nat} {g : Nat} : ∀ (H : Own), lk (only R H) g = if g ∈ R then lk H g else none
  | [] => by simp [only, lk]
  | (k, x) :: l => by
    simp only [only]
    cases e : R.contains k with
    | true =>
      simp only [lk_cons, lk_only l]
      split
      · rename_i e'; subst e'; simp at e; simp [e]
      · rfl
    | false =>
      simp only [lk_cons, lk_only l]
      split
      · split
        · rename_i e'; subst e'; simp at e; rename_i h; exact absurd h e
        · rfl
      · rfl
theorem lk_mapSome {g : Nat} : ∀ (A : Own), lk (A.map fun p => (p.1, some p.2)) g = (lk A g).map some
  | [] => rfl
  | (k, x) :: l => by
    simp only [List.map_cons, lk_cons, lk_mapSome l]
    split <;> rfl
theorem lk_none_of {α : Type} {g : Nat} : ∀ {A : List (Nat × α)}, g ∉ A.map (·.1) → lk A g = none
  | [], _ => rfl
  | (k, x) :: l, h => by
    simp only [List.map_cons, List.mem_cons, not_or] at h
    rw [lk_skip _ _ (Ne.symm h.1)]
    exact lk_none_of h.2

section
variable {P : Program} {T : Tbl} {n i : Nat} {ops : Array Oper} {st : St} {o : Oper} {d : Nat} {r : AV} {A : Own}
theorem ev_looks_refs {g : Nat} (h : ∀ t ∈ o.looksAt ops, ∀ a, lk st.t t = some a → a.refs g = false) : ∀ x ∈ o.op.operands, (st.ev x).refs g = false := by
  intro x hx
  cases x with
  | tmp t =>
    show ((lk st.t t).getD .any).refs g = false
    cases e : lk st.t t with
    | none => rfl
    | some a => exact h t (List.mem_append_left _ (List.mem_filterMap.2 ⟨.tmp t, by simpa using hx, rfl⟩)) a e
  | const v => exact liftV_refs g v
  | func f => rfl
  | global _ => rfl
theorem noH_only {g : Nat} {R : List Nat} {H : Own} (h : ∀ k ∈ R, ∀ ob, lk H k = some ob → AV.refsL g ob.cells = false) : NoH g (only R H) := fun k ob hk => by
  rw [lk_only] at hk
  split at hk
  · rename_i hR; exact h k hR ob hk
  · cases hk
theorem Step.loc (ho : ops[i]? = some o) (hg : o.guard = none) (hd : o.dst = some d) (hn : d < n) (hE : LEff P T st.ev st.own d o.op r A) (hf : Fresh st A) : Step P T n ops i ⟨opN st.t o.op, A.map (·.1), A.map (·.1)⟩ st ⟨(d, r) :: st.t, A ++ st.own⟩ := by
  intro hT
  have hL : LocStep P T n ops i st d r A := .loc ho hg hd hn hE
  refine ⟨o, some (d, r), A.map fun p => (p.1, some p.2), ho, ⟨fun s2 s2' e1 e2 hf2 hi => ?_, fun g e1 e2 e3 _ => ?_, fun q hq => (by obtain rfl := Option.some.inj hq; exact hd), fun k x hk => ?_, fun g hg => hg⟩, fun g hg => ?_, ⟨fun _ => rfl, fun g => ?_⟩⟩
  · have h2 : LocStep P T n ops i s2 d r A := hL.at_ ho e1 (by
      rcases Bool.eq_false_or_eq_true (pureOp o.op) with h | h
      · exact .inl h
      · exact .inr fun g hx => e2 g ((opN_refs hx).resolve_left (by rw [h]; simp)))
    refine (h2.step fun p hp => ⟨(hf p hp).1, hf2 p.1 (List.mem_map.2 ⟨p, hp, rfl⟩)⟩).sem hT ⟨fun j => hi.1 j, fun g => ?_⟩
    rw [hi.2, lk_append]
    unfold eff
    rw [lk_mapSome]
    cases lk A g <;> rfl
  · have hA : lk A g = none := lk_none_of e3
    have key : r.refs g = false ∧ NoH g A := by
      rcases Bool.eq_false_or_eq_true (pureOp o.op) with h | h
      · exact ((hE.pure h []).1).refs hT (ev_looks_refs e1) (noH_nil g) hA
      · exact (hE.own (H' := only (opN st.t o.op) st.own) fun k hx => by rw [lk_only, if_pos ((opN_refs hx).resolve_left (by rw [h]; simp))]).refs hT (ev_looks_refs e1) (noH_only e2) hA
    refine ⟨fun q hq => by obtain rfl := Option.some.inj hq; exact key.1, fun k ob hk => ?_⟩
    rw [lk_mapSome] at hk
    cases e : lk A k with
    | none => rw [e] at hk; cases hk
    | some x => rw [e] at hk; simp at hk; subst hk; exact key.2 k x e
  · show k ∈ A.map (·.1)
    rw [lk_mapSome] at hk
    cases e : lk A k with
    | none => rw [e] at hk; cases hk
    | some x => exact List.mem_map.2 ⟨(k, x), lk_mem e, rfl⟩
  · obtain ⟨p, hp, rfl⟩ := List.mem_map.1 hg
    exact (hf p hp).2
  · show lk (A ++ st.own) g = _
    rw [lk_append]
    unfold eff
    rw [lk_mapSome]
    cases lk A g <;> rfl
theorem Step.gst {oj : Oper} {j t : Nat} {want : Bool} {c : Prop} {ag : AV} {ρ : Operand → AV} (ho : ops[i]? = some o) (h2 : o.guard = some (j, want)) (hd : o.dst = some d) (h4 : d < n) (h5 : ops[j]? = some oj) (h6 : oj.dst = some t) (h7 : t < n) (h8 : lk st.t t = some ag) (hgv : GVal want ag c)
    (h9 : c → (∀ x ∈ o.op.operands, Und c (st.ev x) (ρ x)) ∧ LEff P T ρ st.own d o.op r []) (h10 : r.sub (o.op.operands.toList.map st.ev) = true) (h11 : loudOp o.op = false) : Step P T n ops i ⟨opN st.t o.op, [], []⟩ st ⟨(d, .whn c r) :: st.t, st.own⟩ := by
  intro hT
  have hL : LocStep P T n ops i st d (.whn c r) [] := .gst ho h2 hd h4 h5 h6 h7 h8 hgv h9 h10 h11 rfl
  refine ⟨o, some (d, .whn c r), [], ho, ⟨fun s2 s2' e1 e2 hf2 hi => ?_, fun g e1 e2 e3 _ => ?_, fun q hq => (by obtain rfl := Option.some.inj hq; exact hd), fun k x hk => (by cases hk), fun g hg => hg⟩, fun g hg => (by cases hg), ⟨fun _ => rfl, fun g => rfl⟩⟩
  · have h2 : LocStep P T n ops i s2 d (.whn c r) [] := hL.at_ ho e1 (by
      rcases Bool.eq_false_or_eq_true (pureOp o.op) with h | h
      · exact .inl h
      · exact .inr fun g hx => e2 g ((opN_refs hx).resolve_left (by rw [h]; simp)))
    exact (h2.step fun p hp => by cases hp).sem hT ⟨fun j => hi.1 j, fun g => hi.2 g⟩
  · refine ⟨fun q hq => ?_, fun k ob hk => (by cases hk)⟩
    obtain rfl := Option.some.inj hq
    exact AV.sub_refs (a := .whn c r) (fun a ha => by obtain ⟨x, hx, rfl⟩ := List.mem_map.1 ha; exact ev_looks_refs e1 x (by simpa using hx)) h10
theorem Step.sto {t g off : Nat} {x y : Operand} {ob : OB} {us cs : List AV} {own' : Own} (ho : ops[i]? = some o) (h2 : o.guard = none) (h3 : o.dst = none) (h4 : o.op = .store t x y) (h5 : st.ev x = .optr g off) (h6 : lk st.own g = some ob) (h7 : cells1 (st.ev y) = some us) (h8 : onesB us = true) (h9 : sizeB T t us.length = true) (h10 : setC ob.cells off us = some cs) (h11 : ∀ i, lk own' i = lk ((g, ob.put cs) :: st.own) i) :
    Step P T n ops i ⟨[g], [g], []⟩ st ⟨st.t, own'⟩ := by
  intro hT
  refine ⟨o, none, [(g, some (ob.put cs))], ho, ⟨fun s2 s2' e1 e2 hf2 hi => ?_, fun k e1 e2 e3 _ => ?_, fun q hq => (by cases hq), fun k x hk => ?_, fun g hg => (by cases hg)⟩, fun g hg => (by cases hg), ⟨fun _ => rfl, fun k => ?_⟩⟩
  · have he := ev_looks (st := st) (st' := s2) e1
    rw [h4] at he
    have hs : OpStep P T n ops i s2 ⟨s2.t, (g, ob.put cs) :: s2.own⟩ := .sto ho h2 h3 h4 ((he x (by simp [Op.operands])).trans h5) ((e2 g (by simp)).trans h6) (by rw [he y (by simp [Op.operands])]; exact h7) h8 h9 h10 (fun _ => rfl)
    refine hs.sem hT ⟨fun j => hi.1 j, fun k => ?_⟩
    rw [hi.2]
    rw [eff_cons, lk_cons]
    rfl
  · refine ⟨fun q hq => (by cases hq), fun k' ob' hk => ?_⟩
    rw [lk_cons] at hk
    split at hk
    · simp only [Option.some.injEq] at hk
      subst hk
      rw [show (ob.put cs).cells = cs from by cases ob <;> rfl]
      obtain ⟨_, rfl⟩ := setC_eq h10
      have h12 := e2 g (by simp) ob h6
      have h13 := ev_looks_refs e1
      rw [h4] at h13
      exact refsL_append (refsL_append (refsL_take _ h12) (cells1_refs h7 (h13 y (by simp [Op.operands])))) (refsL_drop _ h12)
    · cases hk
  · rw [lk_cons] at hk
    split at hk
    · rename_i e; subst e; simp
    · cases hk
  · show lk own' k = _
    rw [h11]
    rw [eff_cons, lk_cons]
    rfl
theorem Step.app {t e s b k m : Nat} {x y : Operand} {cs news : List AV} {H' : Own} (ho : ops[i]? = some o) (h2 : o.guard = none) (hd : o.dst = some d) (h4 : d < n) (h5 : o.op = .call { callee := .builtin .append, args := #[x, y], argTypes := #[t, t] }) (h6 : lk T.sli t = some (e, s, b))
    (hB : ABase st.own e s (st.ev x) k cs H') (hS : ASrc st.own s (st.ev y) m news) (h9 : k + m ≤ maxLen) (h10 : (k + m) * b ≤ 140737488355328) (hf : Fresh st [(d, .row e s (k + m) (cs ++ news))]) :
    Step P T n ops i ⟨baseN (st.ev x) ++ baseN (st.ev y), d :: baseN (st.ev x), [d]⟩ st ⟨(d, .osl d) :: st.t, (d, .row e s (k + m) (cs ++ news)) :: H'⟩ := by
  intro hT
  obtain ⟨hlow, hnT, hnH⟩ := hf (d, .row e s (k + m) (cs ++ news)) (by simp)
  have hbase : ∀ s2 : St, s2.ev x = st.ev x → (∀ g ∈ baseN (st.ev x), lk s2.own g = lk st.own g) → ABase s2.own e s (s2.ev x) k cs (appD ((baseN (st.ev x)).map fun g => (g, none)) s2.own) := by
    intro s2 hx hl
    rw [hx]
    generalize st.ev x = ax at hB hl
    cases hB with
    | nil => exact .nil
    | @own g _ _ _ hg _ => exact .own ((hl g (by simp [baseN])).trans hg) (rmv_p g _)
  have hsrc : ∀ s2 : St, s2.ev y = st.ev y → (∀ g ∈ baseN (st.ev y), lk s2.own g = lk st.own g) → ASrc s2.own s (s2.ev y) m news := by
    intro s2 hy hl
    rw [hy]
    generalize st.ev y = ay at hS hl
    cases hS with
    | nil => exact .nil
    | fz h => exact .fz h
    | @own g _ _ _ hg h1 => exact .own ((hl g (by simp [baseN])).trans hg) h1
  have hH' : ∀ g, lk H' g = lk (appD ((baseN (st.ev x)).map fun g => (g, none)) st.own) g := by
    intro g
    generalize st.ev x = ax at hB
    cases hB with
    | nil => rfl
    | @own g0 _ _ _ hg hr =>
      simp only [baseN, List.map_cons, List.map_nil, appD]
      rw [lk_rmv]
      split
      · rename_i e; subst e; exact hr.1
      · rename_i e; exact hr.2 g (Ne.symm e)
  refine ⟨o, some (d, .osl d), (d, some (.row e s (k + m) (cs ++ news))) :: (baseN (st.ev x)).map fun g => (g, none), ho, ⟨fun s2 s2' e1 e2 hf2 hi => ?_, fun g e1 e2 e3 _ => ?_, fun q hq => (by obtain rfl := Option.some.inj hq; exact hd), fun q z hk => ?_, fun g hg => (by simp at hg; simp [hg])⟩, fun g hg => ?_, ⟨fun _ => rfl, fun g => ?_⟩⟩
  · have he := ev_looks (st := st) (st' := s2) e1
    rw [h5] at he
    have hx := he x (by simp [Op.operands, Call.operands])
    have hy := he y (by simp [Op.operands, Call.operands])
    have hs : OpStep P T n ops i s2 _ := .app ho h2 hd h4 h5 h6 (hbase s2 hx fun g hg => e2 g (List.mem_append_left _ hg)) (hsrc s2 hy fun g hg => e2 g (List.mem_append_right _ hg)) h9 h10 (fun p hp => by simp at hp; subst hp; exact ⟨hlow, hf2 d (by simp)⟩)
    refine hs.sem hT ⟨fun j => hi.1 j, fun g => ?_⟩
    rw [hi.2, eff_cons, lk_cons, lk_app]
  · have h13 := ev_looks_refs e1
    rw [h5] at h13
    have hx := h13 x (by simp [Op.operands, Call.operands])
    have hy := h13 y (by simp [Op.operands, Call.operands])
    refine ⟨fun q hq => ?_, fun q ob hk => ?_⟩
    · obtain rfl := Option.some.inj hq
      simp only [AV.refs]
      cases e : Nat.beq d g with
      | false => rfl
      | true => exact absurd (Nat.eq_of_beq_eq_true e) (by intro e; subst e; simp at e3)
    · rw [lk_cons] at hk
      split at hk
      · simp only [Option.some.injEq] at hk
        subst hk
        refine refsL_append ?_ ?_
        · generalize st.ev x = ax at hB hx e2
          cases hB with
          | nil => rfl
          | @own g0 _ _ _ hg _ => exact e2 g0 (by simp [baseN]) _ hg
        · generalize st.ev y = ay at hS hy e2
          cases hS with
          | nil => rfl
          | fz _ => exact refsL_fv _
          | @own g0 _ _ _ hg _ => exact e2 g0 (by simp [baseN]) _ hg
      · have : ∀ (l : List Nat), lk (l.map fun g => (g, (none : Option OB))) q ≠ some (some ob) := by
          intro l
          induction l with
          | nil => simp [lk]
          | cons a l ih =>
            simp only [List.map_cons, lk_cons]
            split
            · simp
            · exact ih
        exact absurd hk (this _)
  · rw [lk_cons] at hk
    split at hk
    · rename_i e; subst e; simp
    · obtain ⟨y', hy'⟩ : ∃ y, (q, y) ∈ (baseN (st.ev x)).map fun g => (g, (none : Option OB)) := ⟨z, lk_mem hk⟩
      simp only [List.mem_map, Prod.mk.injEq] at hy'
      obtain ⟨a, ha, rfl, _⟩ := hy'
      simp [ha]
  · simp at hg
    subst hg
    exact ⟨hnT, hnH⟩
  · show lk ((d, _) :: H') g = _
    rw [eff_cons, lk_cons, hH', lk_app]
end

section
variable {P : Program} {T : Tbl} {n i : Nat} {ops : Array Oper} {l : List Oper} {fps : List Fp} {K : St → Prop} {t : List (Nat × AV)} {H A : Own} {o : Oper} {d : Nat} {r : AV}
theorem Ops.loc (hg : o.guard = none) (hd : o.dst = some d) (hn : Nat.blt d n = true) (hE : LEff P T (St.ev ⟨t, H⟩) H d o.op r []) (hK : OpsL P T n ops (i + 1) l fps K ⟨(d, r) :: t, H⟩) : OpsL P T n ops i (o :: l) (⟨opN t o.op, [], []⟩ :: fps) K ⟨t, H⟩ :=
  ⟨_, _, rfl, fun ho => ⟨_, .loc ho hg hd (by simpa [Nat.blt_eq] using hn) hE (fun _ h => by cases h), hK.out⟩⟩
theorem Ops.new {g : Nat} {ob : OB} (hg : o.guard = none) (hd : o.dst = some d) (hn : Nat.blt d n = true) (hE : LEff P T (St.ev ⟨t, H⟩) H d o.op r [(g, ob)]) (hf : freshB ⟨t, H⟩ [(g, ob)] = true) (hK : OpsL P T n ops (i + 1) l fps K ⟨(d, r) :: t, (g, ob) :: H⟩) : OpsL P T n ops i (o :: l) (⟨opN t o.op, [g], [g]⟩ :: fps) K ⟨t, H⟩ :=
  ⟨_, _, rfl, fun ho => ⟨_, .loc ho hg hd (by simpa [Nat.blt_eq] using hn) hE (freshB_mem hf), hK.out⟩⟩
theorem Ops.gst {oj : Oper} {j tj : Nat} {want : Bool} {ag : AV} {c : Prop} (hg : o.guard = some (j, want)) (hd : o.dst = some d) (hn : Nat.blt d n = true) (hj : ops[j]? = some oj) (hdj : oj.dst = some tj) (hnj : Nat.blt tj n = true) (hb : lk t tj = some ag) (hgv : GVal want ag c)
    (hgo : c → gokAll c ⟨t, H⟩ o.op.operands.toList) (hE : c → LEff P T (fun x => (St.ev ⟨t, H⟩ x).strip) H d o.op r []) (hf : r.sub (o.op.operands.toList.map (St.ev ⟨t, H⟩)) = true) (hq : loudOp o.op = false) (hK : OpsL P T n ops (i + 1) l fps K ⟨(d, .whn c r) :: t, H⟩) : OpsL P T n ops i (o :: l) (⟨opN t o.op, [], []⟩ :: fps) K ⟨t, H⟩ :=
  ⟨_, _, rfl, fun ho => ⟨_, .gst ho hg hd (by simpa [Nat.blt_eq] using hn) hj hdj (by simpa [Nat.blt_eq] using hnj) hb hgv (fun h => ⟨fun x hx => .strip (gokAll_mem (hgo h) x (by simpa using hx)), hE h⟩) hf hq, hK.out⟩⟩
/-- '&&', '||' under a guard. -/
theorem Ops.gand {oj : Oper} {j tj : Nat} {want b b' : Bool} {ag : AV} {c c1 c2 : Prop} {q x : Operand} (hg : o.guard = some (j, want)) (hd : o.dst = some d) (hn : Nat.blt d n = true) (hj : ops[j]? = some oj) (hdj : oj.dst = some tj) (hnj : Nat.blt tj n = true) (hb : lk t tj = some ag) (hgv : GVal want ag c)
    (hop : o.op = .pick q x (.const (.bool false))) (h1 : evO t q = some (.whn c1 (.fv (.bool b)))) (h2 : evO t x = some (.whn c2 (.fv (.bool b')))) (hxq : q ≠ x) (h4 : c → c1) (h5 : c → (c2 ↔ b = true)) (hK : OpsL P T n ops (i + 1) l fps K ⟨(d, .whn c (.fv (.bool (b && b')))) :: t, H⟩) : OpsL P T n ops i (o :: l) (⟨opN t o.op, [], []⟩ :: fps) K ⟨t, H⟩ := by
  refine ⟨_, _, rfl, fun ho => ?_⟩
  classical
  have e1 := evO_ev (st := ⟨t, H⟩) h1
  have e2 := evO_ev (st := ⟨t, H⟩) h2
  by_cases hcn : c
  · refine ⟨_, .gst (st := ⟨t, H⟩) (ρ := fun z => if z = x then .whn (b = true) (.fv (.bool b')) else if z = q then .fv (.bool b) else (St.ev ⟨t, H⟩ z)) ho hg hd (by simpa [Nat.blt_eq] using hn) hj hdj (by simpa [Nat.blt_eq] using hnj) hb hgv (fun hc => ⟨fun z hz => ?_, ?_⟩) rfl (by rw [hop]; rfl), hK.out⟩
    · by_cases hzx : z = x
      · subst hzx
        simp only [if_true, e2]
        exact .part h5
      · by_cases hzq : z = q
        · subst hzq
          simp only [hzx, if_false, if_true, e1]
          exact .strip (a := .whn c1 (.fv (.bool b))) h4
        · simp only [hzx, hzq, if_false]; exact .refl _
    · rw [hop]
      have h6 : (Operand.const (Value.bool false)) ≠ x := by rintro rfl; simp [evO] at h2
      have h7 : (Operand.const (Value.bool false)) ≠ q := by rintro rfl; simp [evO] at h1
      have hA : (if q = x then AV.whn (b = true) (.fv (.bool b')) else if q = q then .fv (.bool b) else (St.ev ⟨t, H⟩ q)) = .fv (.bool b) := by simp [hxq]
      have hB : (if x = x then AV.whn (b = true) (.fv (.bool b')) else if x = q then .fv (.bool b) else (St.ev ⟨t, H⟩ x)) = .whn (b = true) (.fv (.bool b')) := by simp
      have hC : (if (Operand.const (Value.bool false)) = x then AV.whn (b = true) (.fv (.bool b')) else if (Operand.const (Value.bool false)) = q then .fv (.bool b) else (St.ev ⟨t, H⟩ (Operand.const (Value.bool false)))) = .fv (.bool false) := by simp [h6, h7, St.ev, liftV]
      exact .eff (.and hA hB hC)
  · exact ⟨_, .gst (st := ⟨t, H⟩) (ρ := fun _ => .any) ho hg hd (by simpa [Nat.blt_eq] using hn) hj hdj (by simpa [Nat.blt_eq] using hnj) hb hgv (fun hc => absurd hc hcn) rfl (by rw [hop]; rfl), hK.out⟩
theorem Ops.gor {oj : Oper} {j tj : Nat} {want b b' : Bool} {ag : AV} {c c1 c2 : Prop} {q x : Operand} (hg : o.guard = some (j, want)) (hd : o.dst = some d) (hn : Nat.blt d n = true) (hj : ops[j]? = some oj) (hdj : oj.dst = some tj) (hnj : Nat.blt tj n = true) (hb : lk t tj = some ag) (hgv : GVal want ag c)
    (hop : o.op = .pick q (.const (.bool true)) x) (h1 : evO t q = some (.whn c1 (.fv (.bool b)))) (h2 : evO t x = some (.whn c2 (.fv (.bool b')))) (hxq : q ≠ x) (h4 : c → c1) (h5 : c → (c2 ↔ b = false)) (hK : OpsL P T n ops (i + 1) l fps K ⟨(d, .whn c (.fv (.bool (b || b')))) :: t, H⟩) : OpsL P T n ops i (o :: l) (⟨opN t o.op, [], []⟩ :: fps) K ⟨t, H⟩ := by
  refine ⟨_, _, rfl, fun ho => ?_⟩
  classical
  have e1 := evO_ev (st := ⟨t, H⟩) h1
  have e2 := evO_ev (st := ⟨t, H⟩) h2
  by_cases hcn : c
  · refine ⟨_, .gst (st := ⟨t, H⟩) (ρ := fun z => if z = x then .whn (b = false) (.fv (.bool b')) else if z = q then .fv (.bool b) else (St.ev ⟨t, H⟩ z)) ho hg hd (by simpa [Nat.blt_eq] using hn) hj hdj (by simpa [Nat.blt_eq] using hnj) hb hgv (fun hc => ⟨fun z hz => ?_, ?_⟩) rfl (by rw [hop]; rfl), hK.out⟩
    · by_cases hzx : z = x
      · subst hzx
        simp only [if_true, e2]
        exact .part h5
      · by_cases hzq : z = q
        · subst hzq
          simp only [hzx, if_false, if_true, e1]
          exact .strip (a := .whn c1 (.fv (.bool b))) h4
        · simp only [hzx, hzq, if_false]; exact .refl _
    · rw [hop]
      have h6 : (Operand.const (Value.bool true)) ≠ x := by rintro rfl; simp [evO] at h2
      have h7 : (Operand.const (Value.bool true)) ≠ q := by rintro rfl; simp [evO] at h1
      have hA : (if q = x then AV.whn (b = false) (.fv (.bool b')) else if q = q then .fv (.bool b) else (St.ev ⟨t, H⟩ q)) = .fv (.bool b) := by simp [hxq]
      have hB : (if x = x then AV.whn (b = false) (.fv (.bool b')) else if x = q then .fv (.bool b) else (St.ev ⟨t, H⟩ x)) = .whn (b = false) (.fv (.bool b')) := by simp
      have hC : (if (Operand.const (Value.bool true)) = x then AV.whn (b = false) (.fv (.bool b')) else if (Operand.const (Value.bool true)) = q then .fv (.bool b) else (St.ev ⟨t, H⟩ (Operand.const (Value.bool true)))) = .fv (.bool true) := by simp [h6, h7, St.ev, liftV]
      exact .eff (.or hA hC hB)
  · exact ⟨_, .gst (st := ⟨t, H⟩) (ρ := fun _ => .any) ho hg hd (by simpa [Nat.blt_eq] using hn) hj hdj (by simpa [Nat.blt_eq] using hnj) hb hgv (fun hc => absurd hc hcn) rfl (by rw [hop]; rfl), hK.out⟩
theorem Ops.nil {st : St} (h : K st) : OpsL P T n ops i [] [] K st := ⟨rfl, h⟩
theorem LEff.callL {f : Operand} {args : Array Operand} {ts : Array TypeId} {fid : FuncId} {cs as0 as : List AV} (h1 : evO t f = some (.fn fid cs)) (h2 : evL t args.toList = some as0) (h3 : as0 ++ cs = as) (h4 : Fun P fid as r) (h5 : r.flat = true) :
    LEff P T (St.ev ⟨t, H⟩) H d (.call { callee := .value f, args := args, argTypes := ts }) r [] :=
  .call (evO_ev (st := ⟨t, H⟩) h1) (by rw [evL_ev (st := ⟨t, H⟩) h2, h3]; exact .refl _) h4 h5
theorem LEff.callG {f : Operand} {args : Array Operand} {ts : Array TypeId} {fid : FuncId} {cs as0 as : List AV} (h1 : evG t f = some (.fn fid cs)) (h2 : evGL t args.toList = some as0) (h3 : as0 ++ cs = as) (h4 : Fun P fid as r) (h5 : r.flat = true) :
    LEff P T (fun x => (St.ev ⟨t, H⟩ x).strip) H d (.call { callee := .value f, args := args, argTypes := ts }) r [] :=
  .call (evG_ev (st := ⟨t, H⟩) h1) (by rw [evGL_ev (st := ⟨t, H⟩) h2, h3]; exact .refl _) h4 h5
theorem WP.condT {c : Operand} {x y : Code} {Q : Exit → St → Prop} {st : St} (hc : st.ev c = .fv (.bool true)) (h : WP P n x Q st) : WP P n (.cond c x y) Q st := .cond hc (fun _ => h) (fun e => by cases e)
theorem WP.condF {c : Operand} {x y : Code} {Q : Exit → St → Prop} {st : St} (hc : st.ev c = .fv (.bool false)) (h : WP P n y Q st) : WP P n (.cond c x y) Q st := .cond hc (fun e => by cases e) (fun _ => h)
theorem thenQ.nor {next : St → Prop} {Q : Exit → St → Prop} {s : St} (h : next s) : thenQ next Q .normal s := h
theorem thenQ.ex {next : St → Prop} {Q : Exit → St → Prop} {s : St} {i : Nat} (h : Q (.exit i) s) : thenQ next Q (.exit i) s := h
theorem thenQ.ret {next : St → Prop} {Q : Exit → St → Prop} {s : St} (h : Q .ret s) : thenQ next Q .ret s := h
theorem blockQ.nor {Q : Exit → St → Prop} {s : St} {id : Nat} (h : Q .normal s) : blockQ id Q .normal s := h
theorem blockQ.ret {Q : Exit → St → Prop} {s : St} {id : Nat} (h : Q .ret s) : blockQ id Q .ret s := h
theorem blockQ.hit {Q : Exit → St → Prop} {s : St} {i id : Nat} (e : Nat.beq i id = true) (h : Q .normal s) : blockQ id Q (.exit i) s := by simp only [blockQ, e]; exact h
theorem blockQ.out {Q : Exit → St → Prop} {s : St} {i id : Nat} (e : Nat.beq i id = false) (h : Q (.exit i) s) : blockQ id Q (.exit i) s := by simp only [blockQ, e]; exact h
theorem WP.seqK {x y : Code} {Q : Exit → St → Prop} {st : St} (h : ∀ K : St → Prop, (∀ s, WP P n y Q s → K s) → WP P n x (thenQ K Q) st) : WP P n (.seq x y) Q st := .seq (h _ fun _ h => h)
theorem WP.reg {id : Nat} {Q : Exit → St → Prop} {st : St} (hT : T.Ok P) (hl : ops.toList = l) (h : OpsL P T n ops 0 l fps (Q .normal) st) : WP P n (.region id ops false) Q st := .region (OpsL.all hT (by rw [hl]; exact h))
theorem Ops.some_ {F : Nat → Fp} : ∀ (l : List Nat) {st : St}, Ops P n ops F l K st → ∃ s, K s
  | [], st, h => ⟨st, h⟩
  | _ :: l, _, ⟨_, _, h⟩ => Ops.some_ l h
theorem Ops.mono_ {F : Nat → Fp} {K' : St → Prop} (hk : ∀ s, K s → K' s) : ∀ (l : List Nat) {st : St}, Ops P n ops F l K st → Ops P n ops F l K' st
  | [], _, h => hk _ h
  | _ :: l, _, ⟨s, h1, h2⟩ => ⟨s, h1, Ops.mono_ hk l h2⟩
/-- The end of a region whose order is drawn: its order does not matter. -/
def drwK (ops : Array Oper) (fps : List Fp) (st : St) (K : St → Prop) (s : St) : Prop := okF ops fps = true ∧ freeF fps st = true ∧ K s
theorem drwK.mk {st s : St} (h1 : okF ops fps = true) (h2 : freeF fps st = true) (h : K s) : drwK ops fps st K s := ⟨h1, h2, h⟩
theorem WP.drwL {id : Nat} {Q : Exit → St → Prop} {st : St} (hT : T.Ok P) (hm : P.follows .mixedOrders = true) (hl : ops.toList = l) (h : OpsL P T n ops 0 l fps (drwK ops fps st (Q .normal)) st) : WP P n (.region id ops true) Q st := by
  have h1 := OpsL.all hT (by rw [hl]; exact h)
  obtain ⟨_, h2, h3, _⟩ := Ops.some_ _ h1
  exact .drw hm h2 h3 (Ops.mono_ (fun s hs => hs.2.2) _ h1)
end
end Go.Proofs.Ytdbbmjdeeenlhaa
