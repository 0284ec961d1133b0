/- A logic of memory: a region that draws its order. -/
import Derived.Test.YtdbbmjdeeenlhaaL9
import Derived.Orders
namespace Go.Proofs.Ytdbbmjdeeenlhaa
open Go.RowKit

/-- It hangs on its operands alone, and makes nothing. -/
def pureOp : Op → Bool
  | .binOp _ _ _ (.const (.slice _ _ _)) _ => false
  | .move _ | .assign _ | .pick _ _ _ | .binOp _ _ _ _ _ | .unOp _ _ _ | .convert _ _ _ | .extract _ _ | .makeFunc _ _ _ | .nilCheck _ | .fieldAddr _ _ _ | .build _ _ => true
  | _ => false
inductive LocStep (P : Program) (T : Tbl) (n : Nat) (ops : Array Oper) (i : Nat) (st : St) (d : Nat) (r : AV) : Own → Prop
  | loc {o : Oper} {A : Own} : ops[i]? = some o → o.guard = none → o.dst = some d → d < n → LEff P T st.ev st.own d o.op r A → LocStep P T n ops i st d r A
  | gst {o oj : Oper} {j t : Nat} {want : Bool} {c : Prop} {ag r' : AV} {ρ : Operand → AV} : ops[i]? = some o → o.guard = some (j, want) → o.dst = some d → d < n → ops[j]? = some oj → oj.dst = some t → t < n → lk st.t t = some ag → GVal want ag c →
      (c → (∀ x ∈ o.op.operands, Und c (st.ev x) (ρ x)) ∧ LEff P T ρ st.own d o.op r' []) → r'.sub (o.op.operands.toList.map st.ev) = true → loudOp o.op = false → r = .whn c r' → LocStep P T n ops i st d r []
theorem LocStep.step {P : Program} {T : Tbl} {n : Nat} {ops : Array Oper} {i : Nat} {st : St} {d : Nat} {r : AV} {A : Own} (h : LocStep P T n ops i st d r A) (hf : Fresh st A) : OpStep P T n ops i st ⟨(d, r) :: st.t, A ++ st.own⟩ := by
  cases h with
  | loc h1 h2 h3 h4 h5 => exact .loc h1 h2 h3 h4 h5 hf
  | gst h1 h2 h3 h4 h5 h6 h7 h8 h9 h10 h11 h12 h13 => subst h13; exact .gst h1 h2 h3 h4 h5 h6 h7 h8 h9 h10 h11 h12

section
variable {P : Program} {T : Tbl} {n : Nat} {ops : Array Oper} {i : Nat} {st st' : St} {d : Nat} {r : AV} {A : Own}
theorem LEff.congr {ρ ρ' : Operand → AV} {H : Own} {op : Op} (h : LEff P T ρ H d op r A) (hc : ∀ x ∈ op.operands, ρ' x = ρ x) : LEff P T ρ' H d op r A := by
  cases h with
  | eff h => exact .eff (h.congr hc)
  | @call f args ts fid cs as r e1 e2 e3 e4 =>
    refine .call (cs := cs) ((hc f (by simp [Op.operands, Call.operands])).trans e1) ?_ e3 e4
    have : args.toList.map ρ' = args.toList.map ρ := List.map_congr_left fun x hx => hc x (by simp [Op.operands, Call.operands]; exact .inr (by simpa using hx))
    rw [this]
    exact e2
  | @callB f args ts fid cs as r e1 e2 e3 e4 =>
    refine .callB (cs := cs) ((hc f (by simp [Op.operands, Call.operands])).trans e1) ?_ e3 e4
    have : args.toList.map ρ' = args.toList.map ρ := List.map_congr_left fun x hx => hc x (by simp [Op.operands, Call.operands]; exact .inr (by simpa using hx))
    rw [this]
    exact e2
theorem refsL_append_iff {g : Nat} : ∀ {as bs : List AV}, AV.refsL g (as ++ bs) = true ↔ AV.refsL g as = true ∨ AV.refsL g bs = true
  | [], _ => by simp [AV.refsL]
  | a :: as, bs => by simp [AV.refsL, refsL_append_iff, or_assoc]
theorem refsL_mapE {g : Nat} {ρ : Operand → AV} : ∀ {l : List Operand}, AV.refsL g (l.map ρ) = true → ∃ x ∈ l, (ρ x).refs g = true
  | [], h => by simp [AV.refsL] at h
  | x :: l, h => by
    simp only [List.map_cons, AV.refsL, Bool.or_eq_true] at h
    rcases h with h | h
    · exact ⟨x, by simp, h⟩
    · obtain ⟨y, hy, hr⟩ := refsL_mapE h
      exact ⟨y, by simp [hy], hr⟩
theorem LEff.own {ρ : Operand → AV} {H H' : Own} {op : Op} (h : LEff P T ρ H d op r A) (ho : ∀ g, (∃ x ∈ op.operands, (ρ x).refs g = true) → lk H' g = lk H g) : LEff P T ρ H' d op r A := by
  cases h with
  | eff h => exact .eff (h.own ho)
  | call e1 e2 e3 e4 => exact .call e1 e2 e3 e4
  | @callB f args ts fid cs as r e1 e2 e3 e4 =>
    refine .callB (cs := cs) e1 (e2.own fun g hg => ?_) e3 e4
    rw [refsL_append_iff] at hg
    rcases hg with hg | hg
    · obtain ⟨x, hx, hr⟩ := refsL_mapE hg
      exact ho g ⟨x, by simp [Op.operands, Call.operands]; exact .inr (by simpa using hx), hr⟩
    · exact ho g ⟨f, by simp [Op.operands, Call.operands], by rw [e1]; simpa [AV.refs] using hg⟩
theorem LEff.pure {ρ : Operand → AV} {H : Own} {op : Op} (h : LEff P T ρ H d op r A) (hp : pureOp op = true) (H' : Own) : LEff P T ρ H' d op r A ∧ A = [] := by
  cases h with
  | eff h =>
    cases h
    case loadO => cases hp
    case loadF => cases hp
    case idxF => cases hp
    case idxO => cases hp
    case idxPO => cases hp
    case idxPF => cases hp
    case lenF => cases hp
    case lenN => cases hp
    case lenO => cases hp
    case lenS => cases hp
    case zeroS => cases hp
    case oLH => cases hp
    case oL => cases hp
    case oH => cases hp
    case bLH => cases hp
    case idxB => cases hp
    case lenB => cases hp
    case idxV => cases hp
    case mkS => cases hp
    case isNilZ => cases hp
    case isNilO => cases hp
    case isNilF => cases hp
    case max => cases hp
    case min => cases hp
    case bslice => cases hp
    case bsliceF => cases hp
    case box => cases hp
    case alloc => cases hp
    case move => exact ⟨.eff .move, rfl⟩
    case assign => exact ⟨.eff .assign, rfl⟩
    case or h1 h2 h3 => exact ⟨.eff (.or h1 h2 h3), rfl⟩
    case and h1 h2 h3 => exact ⟨.eff (.and h1 h2 h3), rfl⟩
    case bin h1 h2 h3 => exact ⟨.eff (.bin h1 h2 h3), rfl⟩
    case quo h1 h2 h3 => exact ⟨.eff (.quo h1 h2 h3), rfl⟩
    case rem h1 h2 h3 => exact ⟨.eff (.rem h1 h2 h3), rfl⟩
    case shr h1 h2 h3 h4 => exact ⟨.eff (.shr h1 h2 h3 h4), rfl⟩
    case shl h1 h2 h3 h4 => exact ⟨.eff (.shl h1 h2 h3 h4), rfl⟩
    case strEq h1 h2 => exact ⟨.eff (.strEq h1 h2), rfl⟩
    case strNe h1 h2 => exact ⟨.eff (.strNe h1 h2), rfl⟩
    case not h1 => exact ⟨.eff (.not h1), rfl⟩
    case neg h1 => exact ⟨.eff (.neg h1), rfl⟩
    case conv h1 h2 h3 => exact ⟨.eff (.conv h1 h2 h3), rfl⟩
    case fldO h1 h2 h3 => exact ⟨.eff (.fldO h1 h2 h3), rfl⟩
    case fldF h1 h2 h3 => exact ⟨.eff (.fldF h1 h2 h3), rfl⟩
    case extract h1 h2 => exact ⟨.eff (.extract h1 h2), rfl⟩
    case mkFn => exact ⟨.eff .mkFn, rfl⟩
    case nilO h1 => exact ⟨.eff (.nilO h1), rfl⟩
    case nilF h1 => exact ⟨.eff (.nilF h1), rfl⟩
    case build h1 h2 h3 h4 => exact ⟨.eff (.build h1 h2 h3 h4), rfl⟩
    case eqA h1 h2 h3 h4 h5 => exact ⟨.eff (.eqA h1 h2 h3 h4 h5), rfl⟩
    case neA h1 h2 h3 h4 h5 => exact ⟨.eff (.neA h1 h2 h3 h4 h5), rfl⟩
    case sliLH => cases hp
    case sliL => cases hp
    case sliH => cases hp
    case strH => cases hp
    case b2s h1 h2 h3 h4 => exact ⟨.eff (.b2s h1 h2 h3 h4), rfl⟩
    case b2sN h1 h2 h3 h4 => exact ⟨.eff (.b2sN h1 h2 h3 h4), rfl⟩
  | call => cases hp
  | callB => cases hp
theorem LEff.refs {ρ : Operand → AV} {H : Own} {op : Op} {g : Nat} (hT : T.Ok P) (h : LEff P T ρ H d op r A) (ho : ∀ x ∈ op.operands, (ρ x).refs g = false) (hH : NoH g H) (hA : lk A g = none) : r.refs g = false ∧ NoH g A := by
  cases h with
  | eff h => exact h.refs ho hH hA fun t cs hz => zeroT_refs (tbl_lk hT.zero hz)
  | call e1 e2 e3 e4 => exact ⟨AV.flat_refs e4, noH_nil g⟩
  | callB e1 e2 e3 e4 => exact ⟨AV.flat_refs (AV.scal_flat e4), noH_nil g⟩
theorem LEff.quiet {ρ : Operand → AV} {H : Own} {op : Op} (h : LEff P T ρ H d op r A) : loudOp op = false := by
  cases h with
  | eff h => cases h <;> rfl
  | call => rfl
  | callB => rfl

theorem ev_looks {o : Oper} (hl : ∀ t ∈ o.looksAt ops, lk st'.t t = lk st.t t) : ∀ x ∈ o.op.operands, st'.ev x = st.ev x := by
  intro x hx
  cases x with
  | tmp t =>
    have := hl t (List.mem_append_left _ (List.mem_filterMap.2 ⟨.tmp t, by simpa using hx, rfl⟩))
    simp only [St.ev, this]
  | _ => rfl
/-- The same step from another state. -/
theorem LocStep.at_ {o : Oper} (h : LocStep P T n ops i st d r A) (ho : ops[i]? = some o) (hl : ∀ t ∈ o.looksAt ops, lk st'.t t = lk st.t t) (hown : pureOp o.op = true ∨ ∀ g, (∃ x ∈ o.op.operands, (st.ev x).refs g = true) → lk st'.own g = lk st.own g) : LocStep P T n ops i st' d r A := by
  cases h with
  | @loc o' _ h1 h2 h3 h4 h5 =>
    obtain rfl : o' = o := Option.some.inj (h1.symm.trans ho)
    refine .loc h1 h2 h3 h4 ?_
    have h6 := h5.congr (ρ' := st'.ev) (ev_looks hl)
    rcases hown with hp | hown
    · exact (h6.pure hp _).1
    · exact h6.own fun g ⟨x, hx, hg⟩ => hown g ⟨x, hx, by rw [← ev_looks hl x hx]; exact hg⟩
  | @gst o' oj j t want c ag r' ρ h1 h2 h3 h4 h5 h6 h7 h8 hgv h9 h10 h11 h12 =>
    obtain rfl : o' = o := Option.some.inj (h1.symm.trans ho)
    have ht : t ∈ o'.looksAt ops := List.mem_append_right _ (by simp [h2, h5, h6])
    have h10' : r'.sub (o'.op.operands.toList.map st'.ev) = true := by
      have : o'.op.operands.toList.map st'.ev = o'.op.operands.toList.map st.ev := List.map_congr_left fun x hx => ev_looks hl x (by simpa using hx)
      rw [this]; exact h10
    refine .gst (ρ := ρ) h1 h2 h3 h4 h5 h6 h7 ((hl t ht).trans h8) hgv (fun hb => ?_) h10' h11 h12
    obtain ⟨h13, h14⟩ := h9 hb
    refine ⟨fun x hx => by rw [ev_looks hl x hx]; exact h13 x hx, ?_⟩
    rcases hown with hp | hown
    · exact (h14.pure hp _).1
    · refine h14.own fun g ⟨x, hx, hg⟩ => hown g ⟨x, hx, ?_⟩
      cases e : (st.ev x).refs g with
      | true => rfl
      | false => rw [(h13 x hx).2 g e] at hg; cases hg
theorem LocStep.pure {o : Oper} (h : LocStep P T n ops i st d r A) (ho : ops[i]? = some o) (hp : pureOp o.op = true) : A = [] := by
  cases h with
  | @loc o' _ h1 h2 h3 h4 h5 =>
    obtain rfl : o' = o := Option.some.inj (h1.symm.trans ho)
    exact (h5.pure hp st.own).2
  | gst => rfl
theorem LocStep.refs {g : Nat} (hT : T.Ok P) (h : LocStep P T n ops i st d r A) (ht : NoT g st.t) (hH : NoH g st.own) (hA : lk A g = none) : r.refs g = false ∧ NoH g A := by
  cases h with
  | @loc o' _ h1 h2 h3 h4 h5 => exact h5.refs hT (fun x _ => ev_refs ht x) hH hA
  | gst h1 h2 h3 h4 h5 h6 h7 h8 hgv h9 h10 h11 h12 => subst h12; exact ⟨AV.sub_refs (a := .whn _ _) (fun a ha => by obtain ⟨x, _, rfl⟩ := List.mem_map.1 ha; exact ev_refs ht x) h10, noH_nil g⟩

/-- A step that writes. -/
inductive LoudStep (P : Program) (T : Tbl) (n : Nat) (ops : Array Oper) (i : Nat) (st : St) : Option (Nat × AV) → Own → List Nat → Prop
  | sto {o : Oper} {t g off : Nat} {x y : Operand} {ob : OB} {us cs : List AV} {own' : Own} : ops[i]? = some o → o.guard = none → o.dst = none → o.op = .store t x y → st.ev x = .optr g off → lk st.own g = some ob → cells1 (st.ev y) = some us → onesB us = true → sizeB T t us.length = true → setC ob.cells off us = some cs → (∀ i, lk own' i = lk ((g, ob.put cs) :: st.own) i) →
      LoudStep P T n ops i st none own' []
  | app {o : Oper} {d t e s b k m : Nat} {x y : Operand} {cs news : List AV} {H' : Own} : ops[i]? = some o → o.guard = none → o.dst = some d → d < n → o.op = .call { callee := .builtin .append, args := #[x, y], argTypes := #[t, t] } → lk T.sli t = some (e, s, b) →
      ABase st.own e s (st.ev x) k cs H' → ASrc st.own s (st.ev y) m news → k + m ≤ maxLen → (k + m) * b ≤ 140737488355328 → d < 1000 → NoH d st.own → LoudStep P T n ops i st (some (d, .osl d)) ((d, .row e s (k + m) (cs ++ news)) :: H') [d]
def put? (st : St) (p : Option (Nat × AV)) (own' : Own) : St :=
  match p with
  | some q => ⟨q :: st.t, own'⟩
  | none => ⟨st.t, own'⟩
theorem LoudStep.step {p : Option (Nat × AV)} {own' : Own} {F : List Nat} (h : LoudStep P T n ops i st p own' F) (hf : ∀ g ∈ F, NoT g st.t) : OpStep P T n ops i st (put? st p own') := by
  cases h with
  | sto h1 h2 h3 h4 h5 h6 h7 h8 h9 h10 h11 => exact .sto h1 h2 h3 h4 h5 h6 h7 h8 h9 h10 h11
  | app h1 h2 h3 h4 h5 h6 h7 h8 h9 h10 h11 h12 => exact .app h1 h2 h3 h4 h5 h6 h7 h8 h9 h10 (fun p hp => by simp at hp; subst hp; exact ⟨h11, hf _ (by simp), h12⟩)
theorem LoudStep.at_ {o : Oper} {p : Option (Nat × AV)} {own' : Own} {F : List Nat} (h : LoudStep P T n ops i st p own' F) (ho : ops[i]? = some o) (hl : ∀ t ∈ o.looksAt ops, lk st'.t t = lk st.t t) (hown : st'.own = st.own) : LoudStep P T n ops i st' p own' F := by
  have he := ev_looks hl
  cases h with
  | @sto o' t g off x y ob us cs own' h1 h2 h3 h4 h5 h6 h7 h8 h9 h10 h11 =>
    obtain rfl : o' = o := Option.some.inj (h1.symm.trans ho)
    rw [h4] at he
    exact .sto h1 h2 h3 h4 ((he x (by simp [Op.operands])).trans h5) (by rw [hown]; exact h6) (by rw [he y (by simp [Op.operands])]; exact h7) h8 h9 h10 (by rw [hown]; exact h11)
  | @app o' d t e s b k m x y cs news H' h1 h2 h3 h4 h5 h6 h7 h8 h9 h10 h11 h12 =>
    obtain rfl : o' = o := Option.some.inj (h1.symm.trans ho)
    rw [h5] at he
    exact .app h1 h2 h3 h4 h5 h6 (by rw [hown, he x (by simp [Op.operands, Call.operands])]; exact h7) (by rw [hown, he y (by simp [Op.operands, Call.operands])]; exact h8) h9 h10 h11 (by rw [hown]; exact h12)
/-- Each step is of one of the two kinds. -/
theorem OpStep.split (h : OpStep P T n ops i st st') : ∃ o, ops[i]? = some o ∧ ((∃ d r A, o.dst = some d ∧ loudOp o.op = false ∧ LocStep P T n ops i st d r A ∧ Fresh st A ∧ st' = ⟨(d, r) :: st.t, A ++ st.own⟩) ∨
    (∃ p own' F, loudOp o.op = true ∧ (∀ q, p = some q → o.dst = some q.1) ∧ LoudStep P T n ops i st p own' F ∧ (∀ g ∈ F, NoT g st.t) ∧ st' = put? st p own')) := by
  cases h with
  | @loc o d r A h1 h2 h3 h4 h5 h6 => exact ⟨o, h1, .inl ⟨d, r, A, h3, h5.quiet, .loc h1 h2 h3 h4 h5, h6, rfl⟩⟩
  | @gst o oj d j t want c ag r ρ h1 h2 h3 h4 h5 h6 h7 h8 hgv h9 h10 h11 =>
    exact ⟨o, h1, .inl ⟨d, _, [], h3, h11, .gst h1 h2 h3 h4 h5 h6 h7 h8 hgv h9 h10 h11 rfl, (fun _ h => by cases h), rfl⟩⟩
  | @sto o t g off x y ob us cs own' h1 h2 h3 h4 h5 h6 h7 h8 h9 h10 h11 => exact ⟨o, h1, .inr ⟨none, own', [], by rw [h4]; rfl, (fun q h => by cases h), .sto h1 h2 h3 h4 h5 h6 h7 h8 h9 h10 h11, (fun g hg => by cases hg), rfl⟩⟩
  | @app o d t e s b k m x y cs news H' h1 h2 h3 h4 h5 h6 h7 h8 h9 h10 h11 =>
    obtain ⟨q1, q2, q3⟩ := h11 (d, .row e s (k + m) (cs ++ news)) (by simp)
    exact ⟨o, h1, .inr ⟨some (d, .osl d), _, [d], by rw [h5]; rfl, (fun q h => by obtain rfl := Option.some.inj h; exact h3), .app h1 h2 h3 h4 h5 h6 h7 h8 h9 h10 q1 q3, (fun g hg => by simp at hg; subst hg; exact q2), rfl⟩⟩
end
end Go.Proofs.Ytdbbmjdeeenlhaa
