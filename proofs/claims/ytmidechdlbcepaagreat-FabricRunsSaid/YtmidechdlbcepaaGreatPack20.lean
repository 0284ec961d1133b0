import Derived.Test.YtmidechdlbcepaaGreatPack19
import Derived.Orders
set_option linter.unusedSimpArgs false
set_option linter.unusedVariables false
namespace Go.Proofs.YtmidechdlbcepaaGreat
open Go.RowKit
def argT : Nat → List AV → List (Nat × AV)
  | _, [] => []
  | i, a :: as => (i, a) :: argT (i + 1) as
theorem argT_rep {σ : Nat → Value} {Z : Nat → Prop} {w : World} : ∀ {as : List AV} {vs : List Value} {i0 i : Nat} {a : AV}, AV.RepL σ Z w as vs → lk (argT i0 as) i = some a → ∃ v, i0 ≤ i ∧ vs[i - i0]? = some v ∧ a.Rep σ Z w v
  | [], _, _, _, _, _, h => by simp [argT, lk] at h
  | _ :: _, [], _, _, _, hr, _ => hr.elim
  | b :: as, v :: vs, i0, i, a, hr, h => by
    simp only [argT, lk_cons] at h
    split at h
    · rename_i e
      subst e
      obtain rfl := Option.some.inj h
      exact ⟨v, Nat.le_refl _, by simp, hr.1⟩
    · rename_i e
      obtain ⟨u, h1, h2, h3⟩ := argT_rep hr.2 h
      exact ⟨u, by omega, by rw [show i - i0 = (i - (i0 + 1)) + 1 from by omega]; simpa using h2, h3⟩

def ret1 (T : Tbl) (st : St) : ResultVar → Option AV
  | .tmp t => lk st.t t
  | .cell a t => match lk st.t a with
    | some (.optr g off) => match lk st.own g with
      | some ob => readA T t off ob.cells
      | none => none
    | _ => none
def retL (T : Tbl) (st : St) : List ResultVar → Option (List AV)
  | [] => some []
  | x :: xs => match ret1 T st x with
    | some r => match retL T st xs with
      | some rs => some (r :: rs)
      | none => none
    | none => none
def retA : List AV → AV
  | [r] => r
  | rs => .tup rs

def retS (tm : Array Value) : ResultVar → Sem Value
  | .tmp t => pure (tm.getD t undef)
  | .cell a t => do loadVar t (← asAddr (tm.getD a undef))
section
variable {P : Program} {T : Tbl} {C : Ctx} {st : St} {σ : Nat → Value} {Z : Nat → Prop} {w : World} {tm : Array Value}
theorem ret1_sound (hT : T.Ok P) (hI : Inv C st.own σ Z w) (ht : Temps σ Z w st.t tm) {x : ResultVar} {r : AV} (h : ret1 T st x = some r) :
    ∃ v, (retS tm x).run P w = .ok v w ∧ r.Rep σ Z w v := by
  cases x with
  | tmp t => exact ⟨_, rfl, ht t r h⟩
  | cell a t =>
    simp only [ret1] at h
    split at h
    · rename_i g off hg
      split at h
      · rename_i ob hob
        obtain ⟨b, hb, hv⟩ := ht a _ hg
        obtain ⟨us, hu1, hu2⟩ := ob_cells (hI.has g ob hob) hb
        obtain ⟨v, hv1, hv2⟩ := readB_sound (P := P) (b := b) (off := off) hT (readA_eq h) (hu1.drop off) (fun j u hj => hu2 (off + j) u (by rwa [List.getElem?_drop] at hj))
        refine ⟨v, ?_, hv2⟩
        simp only [Instr.loadAt, Instr.sureAddr, Sem.run_bind, Sem.run_pure, Result.andThen_ok] at hv1
        simp [retS, hv, asAddr, hv1]
      · cases h
    · cases h
theorem retL_sound (hT : T.Ok P) (hI : Inv C st.own σ Z w) (ht : Temps σ Z w st.t tm) : ∀ {xs : List ResultVar} {rs : List AV}, retL T st xs = some rs →
    ∃ vs : List Value, (xs.mapM (retS tm)).run P w = .ok vs w ∧ AV.RepL σ Z w rs vs
  | [], rs, h => by
    obtain rfl := Option.some.inj h
    exact ⟨[], rfl, trivial⟩
  | x :: xs, rs, h => by
    simp only [retL] at h
    split at h
    · rename_i r hr
      split at h
      · rename_i rs' hrs
        obtain rfl := Option.some.inj h
        obtain ⟨v, h1, h2⟩ := ret1_sound hT hI ht hr
        obtain ⟨vs, h3, h4⟩ := retL_sound hT hI ht hrs
        refine ⟨v :: vs, ?_, h2, h4⟩
        rw [List.mapM_cons]
        simp only [Sem.run_bind, h1, h3, Result.andThen_ok, Sem.run_pure]
      · cases h
    · cases h
end

theorem results_sound {P : Program} {T : Tbl} {C : Ctx} {st : St} {σ : Nat → Value} {Z : Nat → Prop} {w : World} {tm : Array Value} (hT : T.Ok P) (hI : Inv C st.own σ Z w) (ht : Temps σ Z w st.t tm) {fn : Func} {rs : List AV} (h : retL T st fn.results.toList = some rs) :
    ∃ v, (results fn tm).run P w = .ok v w ∧ (retA rs).Rep σ Z w v := by
  obtain ⟨vs, h1, h2⟩ := retL_sound hT hI ht h
  have e : (fn.results.mapM (retS tm)).run P w = .ok vs.toArray w := by
    rw [Array.mapM_eq_mapM_toList]
    show ((List.mapM (retS tm) fn.results.toList) >>= (Sem.pure ∘ List.toArray)).run P w = _
    rw [Sem.run_bind, h1]
    rfl
  refine ⟨if h : vs.toArray.size = 1 then vs.toArray[0] else .tuple vs.toArray, ?_, ?_⟩
  · show (do let vs ← fn.results.mapM (retS tm); pure (if h : vs.size = 1 then vs[0] else .tuple vs) : Sem Value).run P w = _
    simp only [Sem.run_bind, e, Result.andThen_ok, Sem.run_pure]
  · match rs, vs, h2 with
    | [], [], h2 => exact ⟨#[], rfl, h2⟩
    | [r], [v], h2 => exact h2.1
    | r :: r' :: rs, v :: v' :: vs, h2 => exact ⟨_, by simp, h2⟩
    | [], _ :: _, h2 => exact h2.elim
    | [_], [], h2 => exact h2.elim
    | [_], _ :: _ :: _, h2 => exact h2.2.elim
    | _ :: _ :: _, [], h2 => exact h2.elim
    | _ :: _ :: _, [_], h2 => exact h2.2.elim

def Post (T : Tbl) (rvs : List ResultVar) (Q : AV → Own → Prop) : Exit → St → Prop
  | .normal, s => ∃ s', St.Le s s' ∧ ∃ rs, retL T s' rvs = some rs ∧ Q (retA rs) s'.own
  | .ret, s => ∃ s', St.Le s s' ∧ ∃ rs, retL T s' rvs = some rs ∧ Q (retA rs) s'.own
  | _, _ => False
theorem Post.le {T : Tbl} {rvs : List ResultVar} {Q : AV → Own → Prop} {e : Exit} {s s' : St} (h : St.Le s s') (hp : Post T rvs Q e s') : Post T rvs Q e s := by
  cases e with
  | normal => obtain ⟨s2, h1, h2⟩ := hp; exact ⟨s2, h.trans h1, h2⟩
  | ret => obtain ⟨s2, h1, h2⟩ := hp; exact ⟨s2, h.trans h1, h2⟩
  | _ => exact hp

theorem Triple.body {P : Program} {T : Tbl} {f : FuncId} {fn : Func} {c : Code} {n : Nat} {args : List AV} {own : Own} {Q : AV → Own → Prop} (hT : T.Ok P) (hf : P.funcs[f]? = some fn) (hb : fn.body = some c) (hen : enterB P f = true) (hn : fn.ntmps = n) (hargs : Nat.ble args.length n = true) {rvs : List ResultVar} (hrv : fn.results.toList = rvs)
    (h : WP P n c (Post T rvs Q) ⟨argT 0 args, own⟩) : Triple P f args own Q := by
  have hargs := Nat.le_of_ble_eq_true hargs
  subst hrv
  refine ⟨hen, fun σ Z w vs hI hr => ?_⟩
  have hl := hr.length
  refine calls_of_wp hf hb (wp_mono (h (ctx0 own σ Z w) _ w ⟨rfl, ?_, σ, Z, hI, ?_⟩) ?_)
  · simp [hl, hn]; omega
  · intro i a hi
    obtain ⟨v, _, h2, h3⟩ := argT_rep hr hi
    have hlt := (List.getElem?_eq_some_iff.1 h2).1
    have hv : (vs.toArray ++ Array.replicate (fn.ntmps - vs.toArray.size) undef).getD i undef = v := by
      rw [Array.getD_eq_getD_getElem?, Array.getElem?_append_left (by simpa using hlt)]
      have : vs.toArray[i]? = some v := by simpa using h2
      rw [this]; rfl
    rw [hv]
    exact h3
  · rintro e a' w' ⟨st0, hq, hrel⟩
    have key : (∃ s', St.Le st0 s' ∧ ∃ rs, retL T s' fn.results.toList = some rs ∧ Q (retA rs) s'.own) → a'.defers = [] ∧ ∃ v, (results fn a'.tmps).run P w' = .ok v w' ∧ ∃ v' r own' σ' Z', Ending.returned v = .returned v' ∧ Q r own' ∧ Inv (ctx0 own σ Z w) own' σ' Z' w' ∧ r.Rep σ' Z' w' v' := by
      rintro ⟨st', hle, rs, h1, h2⟩
      obtain ⟨hd, hsz, σ', Z', hI', ht'⟩ := hle _ _ _ _ hrel
      obtain ⟨v, h3, h4⟩ := results_sound hT hI' ht' h1
      exact ⟨hd, v, h3, v, retA rs, st'.own, σ', Z', rfl, h2, hI', h4⟩
    cases e with
    | normal => exact key hq
    | ret => exact key hq
    | _ => exact hq.elim
def pureOp : Op → Bool
  | .binOp _ _ _ (.const (.slice _ _ _)) _ => false
  | .move _ | .assign _ | .pick _ _ _ | .binOp _ _ _ _ _ | .unOp _ _ _ | .convert _ _ _ | .extract _ _ | .makeFunc _ _ _ | .nilCheck _ | .fieldAddr _ _ _ | .build _ _ => true
  | _ => false
inductive LocStep (P : Program) (T : Tbl) (n : Nat) (ops : Array Oper) (i : Nat) (st : St) (d : Nat) (r : AV) : Own → Prop
  | loc {o : Oper} {A : Own} : ops[i]? = some o → o.guard = none → o.dst = some d → d < n → LEff P T st.ev st.own d o.op r A → LocStep P T n ops i st d r A
  | gst {o oj : Oper} {j t : Nat} {want : Bool} {c : Prop} {ag r' : AV} {ρ : Operand → AV} : ops[i]? = some o → o.guard = some (j, want) → o.dst = some d → d < n → ops[j]? = some oj → oj.dst = some t → t < n → lk st.t t = some ag → GVal want ag c →
      (c → (∀ x ∈ o.op.operands, Und c (st.ev x) (ρ x)) ∧ LEff P T ρ st.own d o.op r' []) → r'.sub (o.op.operands.toList.map st.ev) = true → loudOp o.op = false → r = .whn c r' → LocStep P T n ops i st d r []
theorem LocStep.step {P : Program} {T : Tbl} {n : Nat} {ops : Array Oper} {i : Nat} {st : St} {d : Nat} {r : AV} {A : Own} (h : LocStep P T n ops i st d r A) (hf : Fresh st A) : OpStep P T n ops i st ⟨(d, r) :: st.t, A ++ st.own⟩ := by
  cases h with
  | loc h1 h2 h3 h4 h5 => exact .loc h1 h2 h3 h4 h5 hf
  | gst h1 h2 h3 h4 h5 h6 h7 h8 h9 h10 h11 h12 h13 => subst h13; exact .gst h1 h2 h3 h4 h5 h6 h7 h8 h9 h10 h11 h12

section
variable {P : Program} {T : Tbl} {n : Nat} {ops : Array Oper} {i : Nat} {st st' : St} {d : Nat} {r : AV} {A : Own}
theorem LEff.congr {ρ ρ' : Operand → AV} {H : Own} {op : Op} (h : LEff P T ρ H d op r A) (hc : ∀ x ∈ op.operands, ρ' x = ρ x) : LEff P T ρ' H d op r A := by
  cases h with
  | eff h => exact .eff (h.congr hc)
  | @call f args ts fid cs as r e1 e2 e3 e4 =>
    refine .call (cs := cs) ((hc f (by simp [Op.operands, Call.operands])).trans e1) ?_ e3 e4
    have : args.toList.map ρ' = args.toList.map ρ := List.map_congr_left fun x hx => hc x (by simp [Op.operands, Call.operands]; exact .inr (by simpa using hx))
    rw [this]
    exact e2
  | @callB f args ts fid cs as r e1 e2 e3 e4 =>
    refine .callB (cs := cs) ((hc f (by simp [Op.operands, Call.operands])).trans e1) ?_ e3 e4
    have : args.toList.map ρ' = args.toList.map ρ := List.map_congr_left fun x hx => hc x (by simp [Op.operands, Call.operands]; exact .inr (by simpa using hx))
    rw [this]
    exact e2
theorem refsL_append_iff {g : Nat} : ∀ {as bs : List AV}, AV.refsL g (as ++ bs) = true ↔ AV.refsL g as = true ∨ AV.refsL g bs = true
  | [], _ => by simp [AV.refsL]
  | a :: as, bs => by simp [AV.refsL, refsL_append_iff, or_assoc]
theorem refsL_mapE {g : Nat} {ρ : Operand → AV} : ∀ {l : List Operand}, AV.refsL g (l.map ρ) = true → ∃ x ∈ l, (ρ x).refs g = true
  | [], h => by simp [AV.refsL] at h
  | x :: l, h => by
    simp only [List.map_cons, AV.refsL, Bool.or_eq_true] at h
    rcases h with h | h
    · exact ⟨x, by simp, h⟩
    · obtain ⟨y, hy, hr⟩ := refsL_mapE h
      exact ⟨y, by simp [hy], hr⟩
theorem LEff.own {ρ : Operand → AV} {H H' : Own} {op : Op} (h : LEff P T ρ H d op r A) (ho : ∀ g, (∃ x ∈ op.operands, (ρ x).refs g = true) → lk H' g = lk H g) : LEff P T ρ H' d op r A := by
  cases h with
  | eff h => exact .eff (h.own ho)
  | call e1 e2 e3 e4 => exact .call e1 e2 e3 e4
  | @callB f args ts fid cs as r e1 e2 e3 e4 =>
    refine .callB (cs := cs) e1 (e2.own fun g hg => ?_) e3 e4
    rw [refsL_append_iff] at hg
    rcases hg with hg | hg
    · obtain ⟨x, hx, hr⟩ := refsL_mapE hg
      exact ho g ⟨x, by simp [Op.operands, Call.operands]; exact .inr (by simpa using hx), hr⟩
    · exact ho g ⟨f, by simp [Op.operands, Call.operands], by rw [e1]; simpa [AV.refs] using hg⟩
theorem LEff.pure {ρ : Operand → AV} {H : Own} {op : Op} (h : LEff P T ρ H d op r A) (hp : pureOp op = true) (H' : Own) : LEff P T ρ H' d op r A ∧ A = [] := by
  cases h with
  | eff h =>
    cases h
    case loadO => cases hp
    case loadF => cases hp
    case idxF => cases hp
    case idxO => cases hp
    case idxPO => cases hp
    case idxPF => cases hp
    case lenF => cases hp
    case lenN => cases hp
    case lenO => cases hp
    case lenS => cases hp
    case zeroS => cases hp
    case oLH => cases hp
    case oL => cases hp
    case oH => cases hp
    case bLH => cases hp
    case idxB => cases hp
    case lenB => cases hp
    case idxV => cases hp
    case mkS => cases hp
    case isNilZ => cases hp
    case isNilO => cases hp
    case isNilF => cases hp
    case max => cases hp
    case min => cases hp
    case bslice => cases hp
    case bsliceF => cases hp
    case box => cases hp
    case alloc => cases hp
    case move => exact ⟨.eff .move, rfl⟩
    case assign => exact ⟨.eff .assign, rfl⟩
    case or h1 h2 h3 => exact ⟨.eff (.or h1 h2 h3), rfl⟩
    case and h1 h2 h3 => exact ⟨.eff (.and h1 h2 h3), rfl⟩
    case bin h1 h2 h3 => exact ⟨.eff (.bin h1 h2 h3), rfl⟩
    case quo h1 h2 h3 => exact ⟨.eff (.quo h1 h2 h3), rfl⟩
    case rem h1 h2 h3 => exact ⟨.eff (.rem h1 h2 h3), rfl⟩
    case shr h1 h2 h3 h4 => exact ⟨.eff (.shr h1 h2 h3 h4), rfl⟩
    case shl h1 h2 h3 h4 => exact ⟨.eff (.shl h1 h2 h3 h4), rfl⟩
    case strEq h1 h2 => exact ⟨.eff (.strEq h1 h2), rfl⟩
    case strNe h1 h2 => exact ⟨.eff (.strNe h1 h2), rfl⟩
    case bEq h1 h2 h3 => exact ⟨.eff (.bEq h1 h2 h3), rfl⟩
    case bNe h1 h2 h3 => exact ⟨.eff (.bNe h1 h2 h3), rfl⟩
    case not h1 => exact ⟨.eff (.not h1), rfl⟩
    case neg h1 => exact ⟨.eff (.neg h1), rfl⟩
    case conv h1 h2 h3 => exact ⟨.eff (.conv h1 h2 h3), rfl⟩
    case fldO h1 h2 h3 => exact ⟨.eff (.fldO h1 h2 h3), rfl⟩
    case fldF h1 h2 h3 => exact ⟨.eff (.fldF h1 h2 h3), rfl⟩
    case extract h1 h2 => exact ⟨.eff (.extract h1 h2), rfl⟩
    case mkFn => exact ⟨.eff .mkFn, rfl⟩
    case nilO h1 => exact ⟨.eff (.nilO h1), rfl⟩
    case nilF h1 => exact ⟨.eff (.nilF h1), rfl⟩
    case build h1 h2 h3 h4 => exact ⟨.eff (.build h1 h2 h3 h4), rfl⟩
    case eqA h1 h2 h3 h4 h5 => exact ⟨.eff (.eqA h1 h2 h3 h4 h5), rfl⟩
    case neA h1 h2 h3 h4 h5 => exact ⟨.eff (.neA h1 h2 h3 h4 h5), rfl⟩
    case sliLH => cases hp
    case sliL => cases hp
    case sliH => cases hp
    case strH => cases hp
    case b2s h1 h2 h3 h4 => exact ⟨.eff (.b2s h1 h2 h3 h4), rfl⟩
    case b2sN h1 h2 h3 h4 => exact ⟨.eff (.b2sN h1 h2 h3 h4), rfl⟩
  | call => cases hp
  | callB => cases hp
theorem LEff.refs {ρ : Operand → AV} {H : Own} {op : Op} {g : Nat} (hT : T.Ok P) (h : LEff P T ρ H d op r A) (ho : ∀ x ∈ op.operands, (ρ x).refs g = false) (hH : NoH g H) (hA : lk A g = none) : r.refs g = false ∧ NoH g A := by
  cases h with
  | eff h => exact h.refs ho hH hA fun t cs hz => zeroT_refs (tbl_lk hT.zero hz)
  | call e1 e2 e3 e4 => exact ⟨AV.flat_refs e4, noH_nil g⟩
  | callB e1 e2 e3 e4 => exact ⟨AV.flat_refs (AV.scal_flat e4), noH_nil g⟩
theorem LEff.quiet {ρ : Operand → AV} {H : Own} {op : Op} (h : LEff P T ρ H d op r A) : loudOp op = false := by
  cases h with
  | eff h => cases h <;> rfl
  | call => rfl
  | callB => rfl

theorem ev_looks {o : Oper} (hl : ∀ t ∈ o.looksAt ops, lk st'.t t = lk st.t t) : ∀ x ∈ o.op.operands, st'.ev x = st.ev x := by
  intro x hx
  cases x with
  | tmp t =>
    have := hl t (List.mem_append_left _ (List.mem_filterMap.2 ⟨.tmp t, by simpa using hx, rfl⟩))
    simp only [St.ev, this]
  | _ => rfl
theorem LocStep.at_ {o : Oper} (h : LocStep P T n ops i st d r A) (ho : ops[i]? = some o) (hl : ∀ t ∈ o.looksAt ops, lk st'.t t = lk st.t t) (hown : pureOp o.op = true ∨ ∀ g, (∃ x ∈ o.op.operands, (st.ev x).refs g = true) → lk st'.own g = lk st.own g) : LocStep P T n ops i st' d r A := by
  cases h with
  | @loc o' _ h1 h2 h3 h4 h5 =>
    obtain rfl : o' = o := Option.some.inj (h1.symm.trans ho)
    refine .loc h1 h2 h3 h4 ?_
    have h6 := h5.congr (ρ' := st'.ev) (ev_looks hl)
    rcases hown with hp | hown
    · exact (h6.pure hp _).1
    · exact h6.own fun g ⟨x, hx, hg⟩ => hown g ⟨x, hx, by rw [← ev_looks hl x hx]; exact hg⟩
  | @gst o' oj j t want c ag r' ρ h1 h2 h3 h4 h5 h6 h7 h8 hgv h9 h10 h11 h12 =>
    obtain rfl : o' = o := Option.some.inj (h1.symm.trans ho)
    have ht : t ∈ o'.looksAt ops := List.mem_append_right _ (by simp [h2, h5, h6])
    have h10' : r'.sub (o'.op.operands.toList.map st'.ev) = true := by
      have : o'.op.operands.toList.map st'.ev = o'.op.operands.toList.map st.ev := List.map_congr_left fun x hx => ev_looks hl x (by simpa using hx)
      rw [this]; exact h10
    refine .gst (ρ := ρ) h1 h2 h3 h4 h5 h6 h7 ((hl t ht).trans h8) hgv (fun hb => ?_) h10' h11 h12
    obtain ⟨h13, h14⟩ := h9 hb
    refine ⟨fun x hx => by rw [ev_looks hl x hx]; exact h13 x hx, ?_⟩
    rcases hown with hp | hown
    · exact (h14.pure hp _).1
    · refine h14.own fun g ⟨x, hx, hg⟩ => hown g ⟨x, hx, ?_⟩
      cases e : (st.ev x).refs g with
      | true => rfl
      | false => rw [(h13 x hx).2 g e] at hg; cases hg
theorem LocStep.pure {o : Oper} (h : LocStep P T n ops i st d r A) (ho : ops[i]? = some o) (hp : pureOp o.op = true) : A = [] := by
  cases h with
  | @loc o' _ h1 h2 h3 h4 h5 =>
    obtain rfl : o' = o := Option.some.inj (h1.symm.trans ho)
    exact (h5.pure hp st.own).2
  | gst => rfl
theorem LocStep.refs {g : Nat} (hT : T.Ok P) (h : LocStep P T n ops i st d r A) (ht : NoT g st.t) (hH : NoH g st.own) (hA : lk A g = none) : r.refs g = false ∧ NoH g A := by
  cases h with
  | @loc o' _ h1 h2 h3 h4 h5 => exact h5.refs hT (fun x _ => ev_refs ht x) hH hA
  | gst h1 h2 h3 h4 h5 h6 h7 h8 hgv h9 h10 h11 h12 => subst h12; exact ⟨AV.sub_refs (a := .whn _ _) (fun a ha => by obtain ⟨x, _, rfl⟩ := List.mem_map.1 ha; exact ev_refs ht x) h10, noH_nil g⟩

inductive LoudStep (P : Program) (T : Tbl) (n : Nat) (ops : Array Oper) (i : Nat) (st : St) : Option (Nat × AV) → Own → List Nat → Prop
  | sto {o : Oper} {t g off : Nat} {x y : Operand} {ob : OB} {us cs : List AV} {own' : Own} : ops[i]? = some o → o.guard = none → o.dst = none → o.op = .store t x y → st.ev x = .optr g off → lk st.own g = some ob → cells1 (st.ev y) = some us → onesB us = true → sizeB T t us.length = true → setC ob.cells off us = some cs → (∀ i, lk own' i = lk ((g, ob.put cs) :: st.own) i) →
      LoudStep P T n ops i st none own' []
  | app {o : Oper} {d t e s b k m : Nat} {x y : Operand} {cs news : List AV} {H' : Own} : ops[i]? = some o → o.guard = none → o.dst = some d → d < n → o.op = .call { callee := .builtin .append, args := #[x, y], argTypes := #[t, t] } → lk T.sli t = some (e, s, b) →
      ABase st.own e s (st.ev x) k cs H' → ASrc st.own s (st.ev y) m news → k + m ≤ maxLen → (k + m) * b ≤ 140737488355328 → d < 1000 → NoH d st.own → LoudStep P T n ops i st (some (d, .osl d)) ((d, .row e s (k + m) (cs ++ news)) :: H') [d]
def put? (st : St) (p : Option (Nat × AV)) (own' : Own) : St :=
  match p with
  | some q => ⟨q :: st.t, own'⟩
  | none => ⟨st.t, own'⟩
theorem LoudStep.step {p : Option (Nat × AV)} {own' : Own} {F : List Nat} (h : LoudStep P T n ops i st p own' F) (hf : ∀ g ∈ F, NoT g st.t) : OpStep P T n ops i st (put? st p own') := by
  cases h with
  | sto h1 h2 h3 h4 h5 h6 h7 h8 h9 h10 h11 => exact .sto h1 h2 h3 h4 h5 h6 h7 h8 h9 h10 h11
  | app h1 h2 h3 h4 h5 h6 h7 h8 h9 h10 h11 h12 => exact .app h1 h2 h3 h4 h5 h6 h7 h8 h9 h10 (fun p hp => by simp at hp; subst hp; exact ⟨h11, hf _ (by simp), h12⟩)
theorem LoudStep.at_ {o : Oper} {p : Option (Nat × AV)} {own' : Own} {F : List Nat} (h : LoudStep P T n ops i st p own' F) (ho : ops[i]? = some o) (hl : ∀ t ∈ o.looksAt ops, lk st'.t t = lk st.t t) (hown : st'.own = st.own) : LoudStep P T n ops i st' p own' F := by
  have he := ev_looks hl
  cases h with
  | @sto o' t g off x y ob us cs own' h1 h2 h3 h4 h5 h6 h7 h8 h9 h10 h11 =>
    obtain rfl : o' = o := Option.some.inj (h1.symm.trans ho)
    rw [h4] at he
    exact .sto h1 h2 h3 h4 ((he x (by simp [Op.operands])).trans h5) (by rw [hown]; exact h6) (by rw [he y (by simp [Op.operands])]; exact h7) h8 h9 h10 (by rw [hown]; exact h11)
  | @app o' d t e s b k m x y cs news H' h1 h2 h3 h4 h5 h6 h7 h8 h9 h10 h11 h12 =>
    obtain rfl : o' = o := Option.some.inj (h1.symm.trans ho)
    rw [h5] at he
    exact .app h1 h2 h3 h4 h5 h6 (by rw [hown, he x (by simp [Op.operands, Call.operands])]; exact h7) (by rw [hown, he y (by simp [Op.operands, Call.operands])]; exact h8) h9 h10 h11 (by rw [hown]; exact h12)
theorem OpStep.split (h : OpStep P T n ops i st st') : ∃ o, ops[i]? = some o ∧ ((∃ d r A, o.dst = some d ∧ loudOp o.op = false ∧ LocStep P T n ops i st d r A ∧ Fresh st A ∧ st' = ⟨(d, r) :: st.t, A ++ st.own⟩) ∨
    (∃ p own' F, loudOp o.op = true ∧ (∀ q, p = some q → o.dst = some q.1) ∧ LoudStep P T n ops i st p own' F ∧ (∀ g ∈ F, NoT g st.t) ∧ st' = put? st p own')) := by
  cases h with
  | @loc o d r A h1 h2 h3 h4 h5 h6 => exact ⟨o, h1, .inl ⟨d, r, A, h3, h5.quiet, .loc h1 h2 h3 h4 h5, h6, rfl⟩⟩
  | @gst o oj d j t want c ag r ρ h1 h2 h3 h4 h5 h6 h7 h8 hgv h9 h10 h11 =>
    exact ⟨o, h1, .inl ⟨d, _, [], h3, h11, .gst h1 h2 h3 h4 h5 h6 h7 h8 hgv h9 h10 h11 rfl, (fun _ h => by cases h), rfl⟩⟩
  | @sto o t g off x y ob us cs own' h1 h2 h3 h4 h5 h6 h7 h8 h9 h10 h11 => exact ⟨o, h1, .inr ⟨none, own', [], by rw [h4]; rfl, (fun q h => by cases h), .sto h1 h2 h3 h4 h5 h6 h7 h8 h9 h10 h11, (fun g hg => by cases hg), rfl⟩⟩
  | @app o d t e s b k m x y cs news H' h1 h2 h3 h4 h5 h6 h7 h8 h9 h10 h11 =>
    obtain ⟨q1, q2, q3⟩ := h11 (d, .row e s (k + m) (cs ++ news)) (by simp)
    exact ⟨o, h1, .inr ⟨some (d, .osl d), _, [d], by rw [h5]; rfl, (fun q h => by obtain rfl := Option.some.inj h; exact h3), .app h1 h2 h3 h4 h5 h6 h7 h8 h9 h10 q1 q3, (fun g hg => by simp at hg; subst hg; exact q2), rfl⟩⟩
end
def Eqv (s s' : St) : Prop := (∀ i, lk s'.t i = lk s.t i) ∧ ∀ g, lk s'.own g = lk s.own g
theorem Eqv.refl (s : St) : Eqv s s := ⟨fun _ => rfl, fun _ => rfl⟩
theorem Eqv.trans {a b c : St} (h : Eqv a b) (k : Eqv b c) : Eqv a c := ⟨fun i => (k.1 i).trans (h.1 i), fun g => (k.2 g).trans (h.2 g)⟩
theorem Eqv.symm {s s' : St} (h : Eqv s s') : Eqv s' s := ⟨fun i => (h.1 i).symm, fun g => (h.2 g).symm⟩
theorem Eqv.rel {s s' : St} (h : Eqv s s') {n : Nat} {C : Ctx} {a : Act} {w : World} (hr : Rel n C s a w) : Rel n C s' a w := by
  obtain ⟨h1, h2, σ, Z, hI, ht⟩ := hr
  exact ⟨h1, h2, σ, Z, hI.same h.2, fun i x hx => ht i x (h.1 i ▸ hx)⟩
theorem lk_append {α : Type} : ∀ (A H : List (Nat × α)) (i : Nat), lk (A ++ H) i = match lk A i with | some x => some x | none => lk H i
  | [], _, _ => rfl
  | (k, x) :: A, H, i => by
    rw [List.cons_append, lk_cons, lk_cons, lk_append A H i]
    split <;> rfl
theorem lk_append_none {α : Type} {A H : List (Nat × α)} {i : Nat} (h : lk A i = none) : lk (A ++ H) i = lk H i := by rw [lk_append, h]
theorem lk_rmv (g : Nat) (l : Own) (k : Nat) : lk (rmv g l) k = if g = k then none else lk l k := by
  by_cases h : g = k
  · subst h; rw [if_pos rfl]; exact (rmv_p g l).1
  · rw [if_neg h]; exact (rmv_p g l).2 k (Ne.symm h)

def OpSem (P : Program) (n : Nat) (ops : Array Oper) (i : Nat) (s s' : St) : Prop :=
  ∀ (C : Ctx) (a : Act) (w : World) (K : Act → World → Prop) (Q : Exit → Act → World → Prop), Rel n C s a w → (∀ a' w', Rel n C s' a' w' → K a' w') → wpOp P ops Q i K a w
theorem OpStep.sem {P : Program} {T : Tbl} {n : Nat} {ops : Array Oper} {i : Nat} {s s' s2 : St} (hT : T.Ok P) (h : OpStep P T n ops i s s') (he : Eqv s' s2) : OpSem P n ops i s s2 :=
  fun _ _ _ _ _ hr hK => h.sound hT hr fun a' w' hr' => hK a' w' (he.rel hr')
def eff (D : List (Nat × Option OB)) (H : Own) (g : Nat) : Option OB := match lk D g with
  | some x => x
  | none => lk H g
def appD : List (Nat × Option OB) → Own → Own
  | [], H => H
  | (g, some ob) :: D, H => (g, ob) :: appD D H
  | (g, none) :: D, H => rmv g (appD D H)
theorem lk_app : ∀ (D : List (Nat × Option OB)) (H : Own) (g : Nat), lk (appD D H) g = eff D H g
  | [], _, _ => rfl
  | (k, some ob) :: D, H, g => by
    simp only [appD, eff, lk_cons]
    split
    · rfl
    · exact lk_app D H g
  | (k, none) :: D, H, g => by
    simp only [appD, eff, lk_cons, lk_rmv]
    split
    · rfl
    · exact lk_app D H g
theorem eff_cons (g : Nat) (x : Option OB) (D : List (Nat × Option OB)) (H : Own) (k : Nat) : eff ((g, x) :: D) H k = if g = k then x else eff D H k := by
  unfold eff
  rw [lk_cons]
  by_cases h : g = k
  · rw [if_pos h, if_pos h]
  · rw [if_neg h, if_neg h]
def St.Is (s' : St) (p : Option (Nat × AV)) (D : List (Nat × Option OB)) (s : St) : Prop := (∀ j, lk s'.t j = lk (p.toList ++ s.t) j) ∧ ∀ g, lk s'.own g = eff D s.own g
theorem St.is_app (p : Option (Nat × AV)) (D : List (Nat × Option OB)) (s : St) : St.Is ⟨p.toList ++ s.t, appD D s.own⟩ p D s := ⟨fun _ => rfl, fun g => lk_app D s.own g⟩
structure Fp where
  r : List Nat
  w : List Nat
  n : List Nat
structure Local (P : Program) (n : Nat) (ops : Array Oper) (i : Nat) (o : Oper) (p : Option (Nat × AV)) (D : List (Nat × Option OB)) (fp : Fp) (s : St) : Prop where
  sem : ∀ s2 s2' : St, (∀ t ∈ o.looksAt ops, lk s2.t t = lk s.t t) → (∀ g ∈ fp.r, lk s2.own g = lk s.own g) → (∀ g ∈ fp.n, NoT g s2.t ∧ NoH g s2.own) → s2'.Is p D s2 → OpSem P n ops i s2 s2'
  refs : ∀ g, (∀ t ∈ o.looksAt ops, ∀ a, lk s.t t = some a → a.refs g = false) → (∀ k ∈ fp.r, ∀ ob, lk s.own k = some ob → AV.refsL g ob.cells = false) → g ∉ fp.n → g ∉ fp.r → (∀ q, p = some q → q.2.refs g = false) ∧ ∀ k ob, lk D k = some (some ob) → AV.refsL g ob.cells = false
  dst : ∀ q, p = some q → o.dst = some q.1
  keys : ∀ k x, lk D k = some x → k ∈ fp.w
  nw : ∀ g ∈ fp.n, g ∈ fp.w
def FreshN (fp : Fp) (s : St) : Prop := ∀ g ∈ fp.n, NoT g s.t ∧ NoH g s.own
def StepS (P : Program) (n : Nat) (ops : Array Oper) (i : Nat) (fp : Fp) (s s' : St) : Prop :=
  ∃ o p D, ops[i]? = some o ∧ Local P n ops i o p D fp s ∧ FreshN fp s ∧ s'.Is p D s
theorem StepS.sem {P : Program} {n : Nat} {ops : Array Oper} {i : Nat} {fp : Fp} {s s' : St} (h : StepS P n ops i fp s s') : OpSem P n ops i s s' := by
  obtain ⟨o, p, D, _, hL, hf, hi⟩ := h
  exact hL.sem s s' (fun _ _ => rfl) (fun _ _ => rfl) hf hi
theorem Local.at_ {P : Program} {n : Nat} {ops : Array Oper} {i : Nat} {o : Oper} {p : Option (Nat × AV)} {D : List (Nat × Option OB)} {fp : Fp} {s s2 : St} (h : Local P n ops i o p D fp s) (h1 : ∀ t ∈ o.looksAt ops, lk s2.t t = lk s.t t) (h2 : ∀ g ∈ fp.r, lk s2.own g = lk s.own g) : Local P n ops i o p D fp s2 :=
  ⟨fun s3 s3' e1 e2 => h.sem s3 s3' (fun t ht => (e1 t ht).trans (h1 t ht)) (fun g hg => (e2 g hg).trans (h2 g hg)),
   fun g e1 e2 => h.refs g (fun t ht a ha => e1 t ht a ((h1 t ht).trans ha)) (fun k hk ob hob => e2 k hk ob ((h2 k hk).trans hob)), h.dst, h.keys, h.nw⟩
theorem FreshN.eqv {fp : Fp} {s s' : St} (h : FreshN fp s) (he : Eqv s s') : FreshN fp s' := fun g hg => ⟨fun i a hi => (h g hg).1 i a (he.1 i ▸ hi), fun i ob hi => (h g hg).2 i ob (he.2 i ▸ hi)⟩
theorem eff_eqv {D : List (Nat × Option OB)} {H H' : Own} (h : ∀ g, lk H' g = lk H g) (g : Nat) : eff D H' g = eff D H g := by
  unfold eff
  split
  · rfl
  · exact h g
theorem StepS.eqv {P : Program} {n : Nat} {ops : Array Oper} {i : Nat} {fp : Fp} {s s' s1 : St} (h : StepS P n ops i fp s s1) (he : Eqv s s') : StepS P n ops i fp s' s1 := by
  obtain ⟨o, p, D, ho, hL, hf, h1, h2⟩ := h
  refine ⟨o, p, D, ho, hL.at_ (fun t _ => he.1 t) (fun g _ => he.2 g), hf.eqv he, fun j => ?_, fun g => ?_⟩
  · rw [h1, lk_append, lk_append, he.1]
  · rw [h2, eff_eqv he.2]
def disj (a b : List Nat) : Bool := a.all fun x => b.all fun y => !Nat.beq x y
theorem disj_not {a b : List Nat} (h : disj a b = true) {x : Nat} (hx : x ∈ a) : x ∉ b := by
  intro hb
  have := List.all_eq_true.1 (List.all_eq_true.1 h x hx) x hb
  simp at this
def indepF (ops : Array Oper) (x y : Oper) (fx fy : Fp) : Bool := x.apart ops y && disj fx.w fy.r && disj fx.w fy.w && disj fy.w fx.r
section
variable {P : Program} {n : Nat} {ops : Array Oper} {s s1 s2 : St}
theorem StepS.fresh {i : Nat} {fp : Fp} {g : Nat} (h : StepS P n ops i fp s s1) (h1 : NoT g s.t) (h2 : NoH g s.own) (hg : g ∉ fp.n) (hgr : g ∉ fp.r) : NoT g s1.t ∧ NoH g s1.own := by
  obtain ⟨o, p, D, ho, hL, hf, e1, e2⟩ := h
  obtain ⟨r1, r2⟩ := hL.refs g (fun t _ a ha => h1 t a ha) (fun k _ ob hob => h2 k ob hob) hg hgr
  refine ⟨fun j a hj => ?_, fun k ob hk => ?_⟩
  · rw [e1, lk_append] at hj
    split at hj
    · rename_i x hx
      obtain rfl := Option.some.inj hj
      cases p with
      | none => simp [lk] at hx
      | some q =>
        obtain ⟨q1, q2⟩ := q
        simp only [Option.toList, lk_cons] at hx
        split at hx
        · obtain rfl := Option.some.inj hx; exact r1 _ rfl
        · simp [lk] at hx
    · exact h1 j a hj
  · rw [e2] at hk
    unfold eff at hk
    split at hk
    · rename_i x hx
      subst hk
      exact r2 k ob hx
    · exact h2 k ob hk
theorem StepS.swap {x y : Nat} {ox oy : Oper} {fx fy : Fp} (hx : StepS P n ops x fx s s1) (hy : StepS P n ops y fy s1 s2) (hox : ops[x]? = some ox) (hoy : ops[y]? = some oy) (hi : indepF ops ox oy fx fy = true) (hn : disj fx.n fy.n = true) (hF : FreshN fy s) :
    ∃ s1', StepS P n ops y fy s s1' ∧ StepS P n ops x fx s1' s2 := by
  simp only [indepF, Bool.and_eq_true] at hi
  obtain ⟨⟨⟨hap, d1⟩, d2⟩, d3⟩ := hi
  obtain ⟨ap1, ap2, ap3⟩ := Oper.apart_spec hap
  obtain ⟨o, px, Dx, ho, hLx, hfx, t1, w1⟩ := hx
  obtain rfl : o = ox := Option.some.inj (ho.symm.trans hox)
  obtain ⟨o', py, Dy, ho', hLy, hfy, t2, w2⟩ := hy
  obtain rfl : o' = oy := Option.some.inj (ho'.symm.trans hoy)
  have kx : ∀ g, g ∉ fx.w → lk Dx g = none := fun g hg => by
    cases e : lk Dx g with
    | none => rfl
    | some z => exact absurd (hLx.keys g z e) hg
  have ky : ∀ g, g ∉ fy.w → lk Dy g = none := fun g hg => by
    cases e : lk Dy g with
    | none => rfl
    | some z => exact absurd (hLy.keys g z e) hg
  have px0 : ∀ t ∈ o'.looksAt ops, lk px.toList t = none := fun t ht => by
    cases px with
    | none => rfl
    | some q => exact lk_skip _ _ (by rintro rfl; exact ap1 _ (hLx.dst _ rfl) ht)
  have py0 : ∀ t ∈ o.looksAt ops, lk py.toList t = none := fun t ht => by
    cases py with
    | none => rfl
    | some q => exact lk_skip _ _ (by rintro rfl; exact ap3 _ (hLy.dst _ rfl) ht)
  have hLy' : Local P n ops y o' py Dy fy s := hLy.at_ (fun t ht => by rw [t1, lk_append_none (px0 t ht)]) (fun g hg => by
    rw [w1]
    unfold eff
    rw [kx g (fun h => disj_not d1 h hg)])
  have hy' : StepS P n ops y fy s ⟨py.toList ++ s.t, appD Dy s.own⟩ := ⟨o', py, Dy, hoy, hLy', hF, St.is_app py Dy s⟩
  refine ⟨_, hy', o, px, Dx, hox, hLx.at_ (fun t ht => lk_append_none (py0 t ht)) (fun g hg => ?_), fun g hg => ?_, fun j => ?_, fun g => ?_⟩
  · rw [lk_app]
    unfold eff
    rw [ky g (fun h => disj_not d3 h hg)]
  · exact hy'.fresh (hfx g hg).1 (hfx g hg).2 (disj_not hn hg) (disj_not d1 (hLx.nw g hg))
  · rw [t2, lk_append, t1, lk_append, lk_append, lk_append]
    cases py with
    | none => rfl
    | some qy =>
      cases px with
      | none => rfl
      | some qx =>
        obtain ⟨x1, x2⟩ := qx
        obtain ⟨y1, y2⟩ := qy
        have hne : x1 ≠ y1 := by
          rintro rfl
          exact ap2 x1 (hLx.dst (x1, x2) rfl) (hLy.dst (x1, y2) rfl)
        simp only [Option.toList, lk_cons]
        by_cases e1 : y1 = j
        · subst e1; simp [hne, lk]
        · simp [e1, lk]
  · rw [w2]
    unfold eff
    rw [lk_app]
    cases e1 : lk Dy g with
    | none =>
      simp only [w1]
      unfold eff
      rw [e1]
    | some z =>
      have : g ∉ fx.w := fun h => disj_not d2 h (hLy.keys g z e1)
      simp only [kx g this]
      unfold eff
      rw [e1]
end
end Go.Proofs.YtmidechdlbcepaaGreat