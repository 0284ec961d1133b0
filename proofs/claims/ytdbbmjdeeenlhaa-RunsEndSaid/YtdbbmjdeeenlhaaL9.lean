/- A logic of memory: a function's body and its contract. -/
import Derived.Test.YtdbbmjdeeenlhaaL8
namespace Go.Proofs.Ytdbbmjdeeenlhaa
open Go.RowKit

/-- What stands in the slots at the beginning. -/
def argT : Nat → List AV → List (Nat × AV)
  | _, [] => []
  | i, a :: as => (i, a) :: argT (i + 1) as
theorem argT_rep {σ : Nat → Value} {Z : Nat → Prop} {w : World} : ∀ {as : List AV} {vs : List Value} {i0 i : Nat} {a : AV}, AV.RepL σ Z w as vs → lk (argT i0 as) i = some a → ∃ v, i0 ≤ i ∧ vs[i - i0]? = some v ∧ a.Rep σ Z w v
  | [], _, _, _, _, _, h => by simp [argT, lk] at h
  | _ :: _, [], _, _, _, hr, _ => hr.elim
  | b :: as, v :: vs, i0, i, a, hr, h => by
    simp only [argT, lk_cons] at h
    split at h
    · rename_i e
      subst e
      obtain rfl := Option.some.inj h
      exact ⟨v, Nat.le_refl _, by simp, hr.1⟩
    · rename_i e
      obtain ⟨u, h1, h2, h3⟩ := argT_rep hr.2 h
      exact ⟨u, by omega, by rw [show i - i0 = (i - (i0 + 1)) + 1 from by omega]; simpa using h2, h3⟩

/-- What a function's results hold at its end. -/
def ret1 (T : Tbl) (st : St) : ResultVar → Option AV
  | .tmp t => lk st.t t
  | .cell a t => match lk st.t a with
    | some (.optr g off) => match lk st.own g with
      | some ob => readA T t off ob.cells
      | none => none
    | _ => none
def retL (T : Tbl) (st : St) : List ResultVar → Option (List AV)
  | [] => some []
  | x :: xs => match ret1 T st x with
    | some r => match retL T st xs with
      | some rs => some (r :: rs)
      | none => none
    | none => none
def retA : List AV → AV
  | [r] => r
  | rs => .tup rs

def retS (tm : Array Value) : ResultVar → Sem Value
  | .tmp t => pure (tm.getD t undef)
  | .cell a t => do loadVar t (← asAddr (tm.getD a undef))
section
variable {P : Program} {T : Tbl} {C : Ctx} {st : St} {σ : Nat → Value} {Z : Nat → Prop} {w : World} {tm : Array Value}
theorem ret1_sound (hT : T.Ok P) (hI : Inv C st.own σ Z w) (ht : Temps σ Z w st.t tm) {x : ResultVar} {r : AV} (h : ret1 T st x = some r) :
    ∃ v, (retS tm x).run P w = .ok v w ∧ r.Rep σ Z w v := by
  cases x with
  | tmp t => exact ⟨_, rfl, ht t r h⟩
  | cell a t =>
    simp only [ret1] at h
    split at h
    · rename_i g off hg
      split at h
      · rename_i ob hob
        obtain ⟨b, hb, hv⟩ := ht a _ hg
        obtain ⟨us, hu1, hu2⟩ := ob_cells (hI.has g ob hob) hb
        obtain ⟨v, hv1, hv2⟩ := readB_sound (P := P) (b := b) (off := off) hT (readA_eq h) (hu1.drop off) (fun j u hj => hu2 (off + j) u (by rwa [List.getElem?_drop] at hj))
        refine ⟨v, ?_, hv2⟩
        simp only [Instr.loadAt, Instr.sureAddr, Sem.run_bind, Sem.run_pure, Result.andThen_ok] at hv1
        simp [retS, hv, asAddr, hv1]
      · cases h
    · cases h
theorem retL_sound (hT : T.Ok P) (hI : Inv C st.own σ Z w) (ht : Temps σ Z w st.t tm) : ∀ {xs : List ResultVar} {rs : List AV}, retL T st xs = some rs →
    ∃ vs : List Value, (xs.mapM (retS tm)).run P w = .ok vs w ∧ AV.RepL σ Z w rs vs
  | [], rs, h => by
    obtain rfl := Option.some.inj h
    exact ⟨[], rfl, trivial⟩
  | x :: xs, rs, h => by
    simp only [retL] at h
    split at h
    · rename_i r hr
      split at h
      · rename_i rs' hrs
        obtain rfl := Option.some.inj h
        obtain ⟨v, h1, h2⟩ := ret1_sound hT hI ht hr
        obtain ⟨vs, h3, h4⟩ := retL_sound hT hI ht hrs
        refine ⟨v :: vs, ?_, h2, h4⟩
        rw [List.mapM_cons]
        simp only [Sem.run_bind, h1, h3, Result.andThen_ok, Sem.run_pure]
      · cases h
    · cases h
end

theorem results_sound {P : Program} {T : Tbl} {C : Ctx} {st : St} {σ : Nat → Value} {Z : Nat → Prop} {w : World} {tm : Array Value} (hT : T.Ok P) (hI : Inv C st.own σ Z w) (ht : Temps σ Z w st.t tm) {fn : Func} {rs : List AV} (h : retL T st fn.results.toList = some rs) :
    ∃ v, (results fn tm).run P w = .ok v w ∧ (retA rs).Rep σ Z w v := by
  obtain ⟨vs, h1, h2⟩ := retL_sound hT hI ht h
  have e : (fn.results.mapM (retS tm)).run P w = .ok vs.toArray w := by
    rw [Array.mapM_eq_mapM_toList]
    show ((List.mapM (retS tm) fn.results.toList) >>= (Sem.pure ∘ List.toArray)).run P w = _
    rw [Sem.run_bind, h1]
    rfl
  refine ⟨if h : vs.toArray.size = 1 then vs.toArray[0] else .tuple vs.toArray, ?_, ?_⟩
  · show (do let vs ← fn.results.mapM (retS tm); pure (if h : vs.size = 1 then vs[0] else .tuple vs) : Sem Value).run P w = _
    simp only [Sem.run_bind, e, Result.andThen_ok, Sem.run_pure]
  · match rs, vs, h2 with
    | [], [], h2 => exact ⟨#[], rfl, h2⟩
    | [r], [v], h2 => exact h2.1
    | r :: r' :: rs, v :: v' :: vs, h2 => exact ⟨_, by simp, h2⟩
    | [], _ :: _, h2 => exact h2.elim
    | [_], [], h2 => exact h2.elim
    | [_], _ :: _ :: _, h2 => exact h2.2.elim
    | _ :: _ :: _, [], h2 => exact h2.elim
    | _ :: _ :: _, [_], h2 => exact h2.2.elim

/-- The post of a body. -/
def Post (T : Tbl) (rvs : List ResultVar) (Q : AV → Own → Prop) : Exit → St → Prop
  | .normal, s => ∃ s', St.Le s s' ∧ ∃ rs, retL T s' rvs = some rs ∧ Q (retA rs) s'.own
  | .ret, s => ∃ s', St.Le s s' ∧ ∃ rs, retL T s' rvs = some rs ∧ Q (retA rs) s'.own
  | _, _ => False
theorem Post.le {T : Tbl} {rvs : List ResultVar} {Q : AV → Own → Prop} {e : Exit} {s s' : St} (h : St.Le s s') (hp : Post T rvs Q e s') : Post T rvs Q e s := by
  cases e with
  | normal => obtain ⟨s2, h1, h2⟩ := hp; exact ⟨s2, h.trans h1, h2⟩
  | ret => obtain ⟨s2, h1, h2⟩ := hp; exact ⟨s2, h.trans h1, h2⟩
  | _ => exact hp

theorem Triple.body {P : Program} {T : Tbl} {f : FuncId} {fn : Func} {c : Code} {n : Nat} {args : List AV} {own : Own} {Q : AV → Own → Prop} (hT : T.Ok P) (hf : P.funcs[f]? = some fn) (hb : fn.body = some c) (hen : enterB P f = true) (hn : fn.ntmps = n) (hargs : Nat.ble args.length n = true) {rvs : List ResultVar} (hrv : fn.results.toList = rvs)
    (h : WP P n c (Post T rvs Q) ⟨argT 0 args, own⟩) : Triple P f args own Q := by
  have hargs := Nat.le_of_ble_eq_true hargs
  subst hrv
  refine ⟨hen, fun σ Z w vs hI hr => ?_⟩
  have hl := hr.length
  refine calls_of_wp hf hb (wp_mono (h (ctx0 own σ Z w) _ w ⟨rfl, ?_, σ, Z, hI, ?_⟩) ?_)
  · simp [hl, hn]; omega
  · intro i a hi
    obtain ⟨v, _, h2, h3⟩ := argT_rep hr hi
    have hlt := (List.getElem?_eq_some_iff.1 h2).1
    have hv : (vs.toArray ++ Array.replicate (fn.ntmps - vs.toArray.size) undef).getD i undef = v := by
      rw [Array.getD_eq_getD_getElem?, Array.getElem?_append_left (by simpa using hlt)]
      have : vs.toArray[i]? = some v := by simpa using h2
      rw [this]; rfl
    rw [hv]
    exact h3
  · rintro e a' w' ⟨st0, hq, hrel⟩
    have key : (∃ s', St.Le st0 s' ∧ ∃ rs, retL T s' fn.results.toList = some rs ∧ Q (retA rs) s'.own) → a'.defers = [] ∧ ∃ v, (results fn a'.tmps).run P w' = .ok v w' ∧ ∃ v' r own' σ' Z', Ending.returned v = .returned v' ∧ Q r own' ∧ Inv (ctx0 own σ Z w) own' σ' Z' w' ∧ r.Rep σ' Z' w' v' := by
      rintro ⟨st', hle, rs, h1, h2⟩
      obtain ⟨hd, hsz, σ', Z', hI', ht'⟩ := hle _ _ _ _ hrel
      obtain ⟨v, h3, h4⟩ := results_sound hT hI' ht' h1
      exact ⟨hd, v, h3, v, retA rs, st'.own, σ', Z', rfl, h2, hI', h4⟩
    cases e with
    | normal => exact key hq
    | ret => exact key hq
    | _ => exact hq.elim
end Go.Proofs.Ytdbbmjdeeenlhaa
