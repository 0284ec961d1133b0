import Derived.Test.YtmidechdlbcepaaGreatPack18
import Derived.Test.YtmidechdlbcepaaGreatPack07
set_option linter.unusedSimpArgs false
set_option linter.unusedVariables false
namespace Go.Proofs.YtmidechdlbcepaaGreat
open Go.RowKit
def enterB (P : Program) (f : FuncId) : Bool :=
  match P.funcs[f]? with
  | some fn => !(fn.name == "runtime.NumGoroutine") && fn.body.isSome
  | none => false
theorem run_callFunc_enter {P : Program} {f : FuncId} (h : enterB P f = true) (args : Array Value) (w : World) : (callFunc f args).run P w = .ok (.enter f args) w := by
  unfold enterB at h
  cases hf : P.funcs[f]? with
  | none => rw [hf] at h; cases h
  | some fn =>
    rw [hf] at h
    simp only [Bool.and_eq_true, Bool.not_eq_true'] at h
    obtain ⟨c, hc⟩ := Option.isSome_iff_exists.1 h.2
    have hn : ¬ (fn.name = "runtime.NumGoroutine") := by simpa using h.1
    simp [callFunc, program, Sem.run, hf, hn, hc]
theorem put_defers (a : Act) (d : Option Tmp) (v : Value) : (a.put d v).defers = a.defers := by cases d <;> rfl

def Mine (own : Own) (σ : Nat → Value) (b : Nat) : Prop := ∃ g ob, lk own g = some ob ∧ blk (σ g) = some b
def ctx0 (own : Own) (σ : Nat → Value) (Z : Nat → Prop) (w : World) : Ctx := { w0 := w, O0 := Mine own σ, Z0 := Z, σ0 := σ }
def Triple (P : Program) (f : FuncId) (args : List AV) (own : Own) (Q : AV → Own → Prop) : Prop :=
  enterB P f = true ∧ ∀ σ Z w vs, Inv (ctx0 own σ Z w) own σ Z w → AV.RepL σ Z w args vs →
    Calls P f vs.toArray w fun e w' => ∃ v r own' σ' Z', e = .returned v ∧ Q r own' ∧ Inv (ctx0 own σ Z w) own' σ' Z' w' ∧ r.Rep σ' Z' w' v
def Fun (P : Program) (f : FuncId) (args : List AV) (r : AV) : Prop := Triple P f args [] fun r' own' => r' = r ∧ own' = []

theorem inv_none {σ : Nat → Value} {Z : Nat → Prop} {w : World} (hz : ∀ b, Z b → b < w.heap.size) : Inv (ctx0 [] σ Z w) [] σ Z w :=
  ⟨rfl, rfl, rfl, Nat.le_refl _, Nat.le_refl _, fun _ _ _ => rfl, hz, fun _ h => h, fun _ h => .inl h, fun _ _ h => by simp [lk] at h, fun _ _ _ h => by simp [lk] at h, fun _ _ _ _ _ h => by simp [lk] at h, fun _ _ => rfl⟩

mutual
def AV.flat : AV → Bool
  | .any | .bit | .fv _ | .nil | .fptr _ => true
  | .optr _ _ | .osl _ | .osb _ _ _ _ => false
  | .fn _ cs => AV.flatL cs
  | .agg cs => AV.flatL cs
  | .tup cs => AV.flatL cs
  | .whn _ a => a.flat
def AV.flatL : List AV → Bool
  | [] => true
  | a :: as => a.flat && AV.flatL as
end
mutual
theorem AV.flat_refs {g : Nat} : ∀ {a : AV}, a.flat = true → a.refs g = false
  | .any, _ => rfl
  | .bit, _ => rfl
  | .fv _, _ => rfl
  | .nil, _ => rfl
  | .fptr _, _ => rfl
  | .optr _ _, h => by cases h
  | .osl _, h => by cases h
  | .osb _ _ _ _, h => by cases h
  | .fn _ cs, h => AV.flatL_refs (as := cs) h
  | .agg cs, h => AV.flatL_refs (as := cs) h
  | .tup cs, h => AV.flatL_refs (as := cs) h
  | .whn _ a, h => AV.flat_refs (a := a) h
theorem AV.flatL_refs {g : Nat} : ∀ {as : List AV}, AV.flatL as = true → AV.refsL g as = false
  | [], _ => rfl
  | a :: as, h => by
    simp only [AV.flatL, Bool.and_eq_true] at h
    simp only [AV.refsL, Bool.or_eq_false_iff]
    exact ⟨AV.flat_refs h.1, AV.flatL_refs h.2⟩
end

mutual
def AV.scal : AV → Bool
  | .fv (.int _ _) | .fv (.bool _) | .fv (.str _) => true
  | .agg cs => AV.scalL cs
  | .tup cs => AV.scalL cs
  | _ => false
def AV.scalL : List AV → Bool
  | [] => true
  | a :: as => a.scal && AV.scalL as
end
mutual
theorem AV.scal_rep {σ σ' : Nat → Value} {Z Z' : Nat → Prop} {w w' : World} : ∀ {a : AV} {v : Value}, a.scal = true → a.Rep σ Z w v → a.Rep σ' Z' w' v
  | .fv (.int _ _), _, _, h => h
  | .fv (.bool _), _, _, h => h
  | .fv (.str _), _, _, h => h
  | .agg _, _, hs, ⟨arr, h1, h2⟩ => ⟨arr, h1, AV.scalL_rep (by simpa [AV.scal] using hs) h2⟩
  | .tup _, _, hs, ⟨arr, h1, h2⟩ => ⟨arr, h1, AV.scalL_rep (by simpa [AV.scal] using hs) h2⟩
  | .any, _, hs, _ => by cases hs
  | .bit, _, hs, _ => by cases hs
  | .nil, _, hs, _ => by cases hs
  | .fptr _, _, hs, _ => by cases hs
  | .optr _ _, _, hs, _ => by cases hs
  | .osl _, _, hs, _ => by cases hs
  | .osb _ _ _ _, _, hs, _ => by cases hs
  | .fn _ _, _, hs, _ => by cases hs
  | .whn _ _, _, hs, _ => by cases hs
  | .fv (.sl _ _), _, hs, _ => by cases hs
theorem AV.scalL_rep {σ σ' : Nat → Value} {Z Z' : Nat → Prop} {w w' : World} : ∀ {as : List AV} {vs : List Value}, AV.scalL as = true → AV.RepL σ Z w as vs → AV.RepL σ' Z' w' as vs
  | [], [], _, _ => trivial
  | a :: as, v :: vs, hs, ⟨h1, h2⟩ => by
    simp only [AV.scalL, Bool.and_eq_true] at hs
    exact ⟨AV.scal_rep hs.1 h1, AV.scalL_rep hs.2 h2⟩
  | [], _ :: _, _, h => h.elim
  | _ :: _, [], _, h => h.elim
end
mutual
theorem AV.scal_flat : ∀ {a : AV}, a.scal = true → a.flat = true
  | .fv (.int _ _), _ => rfl
  | .fv (.bool _), _ => rfl
  | .fv (.str _), _ => rfl
  | .agg cs, hs => AV.scalL_flat (as := cs) (by simpa [AV.scal] using hs)
  | .tup cs, hs => AV.scalL_flat (as := cs) (by simpa [AV.scal] using hs)
  | .any, hs => by cases hs
  | .bit, hs => by cases hs
  | .nil, hs => by cases hs
  | .fptr _, hs => by cases hs
  | .optr _ _, hs => by cases hs
  | .osl _, hs => by cases hs
  | .osb _ _ _ _, hs => by cases hs
  | .fn _ _, hs => by cases hs
  | .whn _ _, hs => by cases hs
  | .fv (.sl _ _), hs => by cases hs
theorem AV.scalL_flat : ∀ {as : List AV}, AV.scalL as = true → AV.flatL as = true
  | [], _ => rfl
  | a :: as, hs => by
    simp only [AV.scalL, Bool.and_eq_true] at hs
    simp only [AV.flatL, Bool.and_eq_true]
    exact ⟨AV.scal_flat hs.1, AV.scalL_flat hs.2⟩
end
mutual
inductive Bor (H : Own) : AV → AV → Prop
  | le {a b : AV} : AV.Le a b → Bor H a b
  | row {g e s n : Nat} {us : List FV} : lk H g = some (.row e s n (us.map .fv)) → Bor H (.osl g) (.fv (.sl us n))
  | box {g t off : Nat} {us : List FV} : lk H g = some (.box t (us.map .fv)) → Bor H (.optr g off) (.fptr (us.drop off))
  | cut {g e s N lo n : Nat} {us : List FV} : lk H g = some (.row e s N (us.map .fv)) → lo + n ≤ N → Bor H (.osb g lo n s) (.fv (.sl ((us.drop (lo * s)).take (n * s)) n))
  | agg {as bs : List AV} : BorL H as bs → Bor H (.agg as) (.agg bs)
  | fn {f : FuncId} {as bs : List AV} : BorL H as bs → Bor H (.fn f as) (.fn f bs)
inductive BorL (H : Own) : List AV → List AV → Prop
  | nil : BorL H [] []
  | cons {a b : AV} {as bs : List AV} : Bor H a b → BorL H as bs → BorL H (a :: as) (b :: bs)
end
mutual
theorem Bor.own {H H' : Own} {a b : AV} (h : Bor H a b) (ho : ∀ g, a.refs g = true → lk H' g = lk H g) : Bor H' a b := by
  cases h with
  | le h => exact .le h
  | @row g e s n us h => exact .row ((ho g (by simp [AV.refs])).trans h)
  | @box g t off us h => exact .box ((ho g (by simp [AV.refs])).trans h)
  | @cut g e s N lo n us h h2 => exact .cut ((ho g (by simp [AV.refs])).trans h) h2
  | agg h => exact .agg (BorL.own h fun g hg => ho g (by simpa [AV.refs] using hg))
  | fn h => exact .fn (BorL.own h fun g hg => ho g (by simpa [AV.refs] using hg))
theorem BorL.own {H H' : Own} {as bs : List AV} (h : BorL H as bs) (ho : ∀ g, AV.refsL g as = true → lk H' g = lk H g) : BorL H' as bs := by
  cases h with
  | nil => exact .nil
  | cons h h' => exact .cons (Bor.own h fun g hg => ho g (by simp [AV.refsL, hg])) (BorL.own h' fun g hg => ho g (by simp [AV.refsL, hg]))
end

inductive LEff (P : Program) (T : Tbl) (ρ : Operand → AV) (H : Own) (d : Nat) : Op → AV → Own → Prop
  | eff {op : Op} {r : AV} {A : Own} : Eff T ρ H d op r A → LEff P T ρ H d op r A
  | call {f : Operand} {args : Array Operand} {ts : Array TypeId} {fid : FuncId} {cs as : List AV} {r : AV} : ρ f = .fn fid cs → AV.LeL (args.toList.map ρ ++ cs) as → Fun P fid as r → r.flat = true → LEff P T ρ H d (.call { callee := .value f, args := args, argTypes := ts }) r []
  | callB {f : Operand} {args : Array Operand} {ts : Array TypeId} {fid : FuncId} {cs as : List AV} {r : AV} : ρ f = .fn fid cs → BorL H (args.toList.map ρ ++ cs) as → Fun P fid as r → r.scal = true → LEff P T ρ H d (.call { callee := .value f, args := args, argTypes := ts }) r []

section
variable {P : Program} {T : Tbl} {C : Ctx} {own : Own} {σ : Nat → Value} {Z : Nat → Prop} {w : World} {a : Act} {ρ : Operand → AV} {d : Nat} {r : AV} {A : Own} {o : Oper}
  {K : Act → World → Prop} {Q : Exit → Act → World → Prop}

theorem inv_after {σ' : Nat → Value} {Z' : Nat → Prop} {w' : World} (hI : Inv C own σ Z w) (h : Inv (ctx0 [] σ Z w) [] σ' Z' w') : Inv C own σ Z' w' := by
  have hfr : ∀ b, b < w.heap.size → w'.heap[b]? = w.heap[b]? := fun b hb => h.frame b hb (by rintro ⟨g, ob, hg, _⟩; simp [lk] at hg)
  have hkeep : Keeps Z w w' := fun b hb => hfr b (hI.zlt b hb)
  have hnew : ∀ b, Z' b → Z b ∨ w.heap.size ≤ b := fun b hb => by
    rcases h.znew b hb with h1 | ⟨g, ob, hg, _⟩ | h1
    · exact .inl h1
    · simp [lk] at hg
    · exact .inr h1
  refine ⟨h.os.trans hI.os, h.tape.trans hI.tape, h.output.trans hI.output, Nat.le_trans hI.size h.size, Nat.le_trans hI.drawn h.drawn, fun b hb1 hb2 => ?_, h.zlt, fun b hb => h.zold b (hI.zold b hb), fun b hb => ?_, fun g ob hg => ?_, fun g ob b hg hb => ?_, hI.inj, hI.keep⟩
  · exact (hfr b (Nat.lt_of_lt_of_le hb1 hI.size)).trans (hI.frame b hb1 hb2)
  · rcases hnew b hb with h1 | h1
    · exact hI.znew b h1
    · exact .inr (.inr (Nat.le_trans hI.size h1))
  · exact (hI.has g ob hg).mono hkeep h.zold (fun _ _ => rfl) (fun b hb => hfr b (hI.mine g ob b hg hb).2.2)
  · have hm := hI.mine g ob b hg hb
    refine ⟨hm.1, fun hz => ?_, Nat.lt_of_lt_of_le hm.2.2 h.size⟩
    rcases hnew b hz with h1 | h1
    · exact hm.2.1 h1
    · omega

theorem inv_kept {w' : World} (hI : Inv C own σ Z w) (h1 : w'.os = w.os) (h2 : w'.tape = w.tape) (h3 : w'.output = w.output) (h4 : w.heap.size ≤ w'.heap.size) (h5 : w.drawn ≤ w'.drawn) (hfr : ∀ b, b < w.heap.size → w'.heap[b]? = w.heap[b]?) : Inv C own σ Z w' := by
  have hkeep : Keeps Z w w' := fun b hb => hfr b (hI.zlt b hb)
  refine ⟨h1.trans hI.os, h2.trans hI.tape, h3.trans hI.output, Nat.le_trans hI.size h4, Nat.le_trans hI.drawn h5, fun b hb1 hb2 => ?_, fun b hb => Nat.lt_of_lt_of_le (hI.zlt b hb) h4, hI.zold, hI.znew, fun g ob hg => ?_, fun g ob b hg hb => ?_, hI.inj, hI.keep⟩
  · exact (hfr b (Nat.lt_of_lt_of_le hb1 hI.size)).trans (hI.frame b hb1 hb2)
  · exact (hI.has g ob hg).mono hkeep (fun _ h => h) (fun _ _ => rfl) (fun b hb => hfr b (hI.mine g ob b hg hb).2.2)
  · have hm := hI.mine g ob b hg hb
    exact ⟨hm.1, hm.2.1, Nat.lt_of_lt_of_le hm.2.2 h4⟩
theorem row_read {e s n : Nat} {h : Value} {xs : List Value} (hx : rowZ w e s h n xs) : ∃ A c, h = .slice A n c ∧ n ≤ c ∧ c ≤ maxLen ∧ (xs = [] ∨ ∃ b, A = some ⟨b, 0, none⟩ ∧ 0 < c ∧ ∀ (j : Nat) (u : Value), xs[j]? = some u → w.cell? ⟨b, j, none⟩ = some u) := by
  rcases hx.2 with ⟨rfl, A, rfl⟩ | ⟨g, cap, cur, hv, h0, ha, hc, hm, _, ht⟩
  · have : xs = [] := List.eq_nil_of_length_eq_zero (by simpa using hx.1)
    exact ⟨A, 0, rfl, Nat.le_refl _, Nat.zero_le _, .inl this⟩
  · refine ⟨_, cap, hv, hc, hm, .inr ⟨g, rfl, h0, fun j u hu => ?_⟩⟩
    rw [cell_of_row w g j cur e (0, 0) ha]
    rw [← ht, List.getElem?_take] at hu
    split at hu
    · simpa using hu
    · cases hu
theorem row_fv {e s n g : Nat} {us : List FV} {Zc : Nat → Prop} (h : OB.Rep σ Z w (σ g) (.row e s n (us.map .fv))) (hz : ∀ b, Z b → Zc b) (hb : ∀ b, blk (σ g) = some b → Zc b) : (FV.sl us n).Rep Zc w (σ g) := by
  obtain ⟨xs, hx, hr⟩ := h
  obtain ⟨A, c, e1, e2, e3, e4⟩ := row_read hx
  refine ⟨A, c, e1, e2, e3, ?_⟩
  rcases e4 with rfl | ⟨b, rfl, h0, hc⟩
  · left
    have := hr.length
    simpa using this.symm
  · right
    exact ⟨b, 0, rfl, hb b (by rw [e1]; exact blk_slice h0), FV.RepAt.ofL (σ := σ) (AV.RepL.mono (fun _ _ => rfl) hz (fun _ _ => rfl) hr) (fun j u hj => by rw [Nat.zero_add]; exact hc j u hj)⟩
theorem box_fv {t g b : Nat} {us : List FV} {Zc : Nat → Prop} (h : OB.Rep σ Z w (σ g) (.box t (us.map .fv))) (hz : ∀ b, Z b → Zc b) (hb : blk (σ g) = some b) : FV.RepAt Zc w b 0 us := by
  obtain ⟨xs, hr, hc⟩ := ob_cells h hb
  exact FV.RepAt.ofL (σ := σ) (AV.RepL.mono (fun _ _ => rfl) hz (fun _ _ => rfl) hr) (fun j u hj => by rw [Nat.zero_add]; exact hc j u hj)
theorem cut_fv {e s N lo n g : Nat} {us : List FV} {v : Value} {Zc : Nat → Prop} (h : OB.Rep σ Z w (σ g) (.row e s N (us.map .fv))) (h2 : lo + n ≤ N) (hv : (AV.osb g lo n s).Rep σ Z w v) (hz : ∀ b, Z b → Zc b) (hb : ∀ b, blk (σ g) = some b → Zc b) : (FV.sl ((us.drop (lo * s)).take (n * s)) n).Rep Zc w v := by
  obtain ⟨A, c, A0, N', cap, rfl, q2, q3, q4, _, q6⟩ := hv
  obtain ⟨xs, hx, hr⟩ := h
  obtain ⟨A1, c1, e1, e2, e3, e4⟩ := row_read hx
  rw [q2] at e1
  injection e1 with e5 e6 e7
  subst e5 e6 e7
  refine ⟨A, c, rfl, q4, by omega, ?_⟩
  rcases Nat.eq_zero_or_pos n with hn | hn
  · left; subst hn; simp
  rcases e4 with rfl | ⟨b, rfl, h0, hc⟩
  · left
    have := hr.length
    have hu : us = [] := List.eq_nil_of_length_eq_zero (by simpa using this.symm)
    simp [hu]
  · obtain ⟨b', r1, r2⟩ := q6 (by omega)
    injection r1 with r1
    injection r1 with r1
    subst r1
    right
    refine ⟨b, lo * s, r2, hb b (by rw [q2]; exact blk_slice h0), ?_⟩
    have hall : FV.RepAt Zc w b 0 us := FV.RepAt.ofL (σ := σ) (AV.RepL.mono (fun _ _ => rfl) hz (fun _ _ => rfl) hr) (fun j u hj => by rw [Nat.zero_add]; exact hc j u hj)
    have := (hall.drop (lo * s)).take (n * s)
    rwa [Nat.zero_add] at this
mutual
theorem Bor.rep (hI : Inv C own σ Z w) {a b : AV} {v : Value} (h : Bor own a b) (hr : a.Rep σ Z w v) : b.Rep σ (fun x => Z x ∨ Mine own σ x) w v := by
  cases h with
  | le h => exact AV.Rep.mono (fun _ _ => rfl) (fun _ h => .inl h) (fun _ _ => rfl) (h _ _ _ _ hr)
  | @row g e s n us h =>
    obtain ⟨rfl, _⟩ := hr
    exact row_fv (hI.has g _ h) (fun _ h => .inl h) (fun b hb => .inr ⟨g, _, h, hb⟩)
  | @box g t off us h =>
    obtain ⟨b, hb, rfl⟩ := hr
    have := (box_fv (hI.has g _ h) (Zc := fun x => Z x ∨ Mine own σ x) (fun _ h => .inl h) hb).drop off
    rw [Nat.zero_add] at this
    exact ⟨b, off, rfl, .inr ⟨g, _, h, hb⟩, this⟩
  | @cut g e s N lo n us h h2 => exact cut_fv (hI.has g _ h) h2 hr (fun _ h => .inl h) (fun b hb => .inr ⟨g, _, h, hb⟩)
  | agg h =>
    obtain ⟨arr, e, h2⟩ := hr
    exact ⟨arr, e, BorL.rep hI h h2⟩
  | fn h =>
    obtain ⟨arr, e, h2⟩ := hr
    exact ⟨arr, e, BorL.rep hI h h2⟩
theorem BorL.rep (hI : Inv C own σ Z w) {as bs : List AV} {vs : List Value} (h : BorL own as bs) (hr : AV.RepL σ Z w as vs) : AV.RepL σ (fun x => Z x ∨ Mine own σ x) w bs vs := by
  cases h with
  | nil =>
    cases vs with
    | nil => trivial
    | cons => exact hr.elim
  | cons h h' =>
    cases vs with
    | nil => exact hr.elim
    | cons v vs => exact ⟨Bor.rep hI h hr.1, BorL.rep hI h' hr.2⟩
end

theorem LEff.sound (hT : T.Ok P) (hE : LEff P T ρ own d o.op r A) (hρ : ∀ x, (ρ x).Rep σ Z w (a.eval x)) (hI : Inv C own σ Z w)
    (hA : ∀ p ∈ A, p.1 < 1000 ∧ NoH p.1 own ∧ ∀ x ∈ o.op.operands, (ρ x).refs p.1 = false)
    (hK : ∀ v w' σ' Z', Inv C (A ++ own) σ' Z' w' → (∀ b, Z b → Z' b) → Keeps Z w w' → (∀ g, (∀ p ∈ A, p.1 ≠ g) → σ' g = σ g) → r.Rep σ' Z' w' v → K (a.put o.dst v) w') : o.wp P a w K Q := by
  generalize ho : o.op = op at hE
  cases hE with
  | eff h => subst ho; exact h.sound hT hρ hI hA hK
  | @call f args ts fid cs as r h1 h2 h3 h4 =>
    have e1 := hρ f
    rw [h1] at e1
    obtain ⟨caps, hv, hcs⟩ := e1
    have hargs : AV.RepL σ Z w (args.toList.map ρ ++ cs) ((args.map a.eval).toList ++ caps.toList) := by
      refine AV.RepL.append ?_ hcs
      simpa using repL_get hρ args.toList
    have hrun : (execOp a.eval o).run P w = .ok (.enter fid (args.map a.eval ++ caps)) w := by
      simp [execOp, ho, resolve, hv, Deferred.ofValue, invoke, run_callFunc_enter h3.1]
    have hc := h3.2 σ Z w _ (inv_none hI.zlt) (h2.rep hargs)
    unfold Oper.wp
    rw [hrun]
    have he : ((args.map a.eval).toList ++ caps.toList).toArray = args.map a.eval ++ caps := by
      apply Array.ext'
      simp
    rw [he] at hc
    show Calls P fid _ w _
    refine hc.mono ?_
    rintro e w' ⟨v, r', own', σ', Z', rfl, ⟨rfl, rfl⟩, hI', hr⟩
    have hI2 := inv_after hI hI'
    have hkeep : Keeps Z w w' := fun b hb => hI'.frame b (hI.zlt b hb) (by rintro ⟨g, ob, hg, _⟩; simp [lk] at hg)
    exact hK v w' σ Z' hI2 hI'.zold hkeep (fun _ _ => rfl) (AV.Rep.mono (fun _ _ => rfl) (fun _ h => h) (fun g hg => by rw [AV.flat_refs h4] at hg; cases hg) hr)
  | @callB f args ts fid cs as r h1 h2 h3 h4 =>
    have e1 := hρ f
    rw [h1] at e1
    obtain ⟨caps, hv, hcs⟩ := e1
    have hargs : AV.RepL σ Z w (args.toList.map ρ ++ cs) ((args.map a.eval).toList ++ caps.toList) := by
      refine AV.RepL.append ?_ hcs
      simpa using repL_get hρ args.toList
    have hrun : (execOp a.eval o).run P w = .ok (.enter fid (args.map a.eval ++ caps)) w := by
      simp [execOp, ho, resolve, hv, Deferred.ofValue, invoke, run_callFunc_enter h3.1]
    have hzl : ∀ b, (Z b ∨ Mine own σ b) → b < w.heap.size := by
      rintro b (hb | ⟨g, ob, hg, hb⟩)
      · exact hI.zlt b hb
      · exact (hI.mine g ob b hg hb).2.2
    have hc := h3.2 σ (fun x => Z x ∨ Mine own σ x) w _ (inv_none hzl) (h2.rep hI hargs)
    unfold Oper.wp
    rw [hrun]
    have he : ((args.map a.eval).toList ++ caps.toList).toArray = args.map a.eval ++ caps := by
      apply Array.ext'
      simp
    rw [he] at hc
    show Calls P fid _ w _
    refine hc.mono ?_
    rintro e w' ⟨v, r', own', σ', Z', rfl, ⟨rfl, rfl⟩, hI', hr⟩
    have hfr : ∀ b, b < w.heap.size → w'.heap[b]? = w.heap[b]? := fun b hb => hI'.frame b hb (by rintro ⟨g, ob, hg, _⟩; simp [lk] at hg)
    exact hK v w' σ Z (inv_kept hI hI'.os hI'.tape hI'.output hI'.size hI'.drawn hfr) (fun _ h => h) (fun b hb => hfr b (hI.zlt b hb)) (fun _ _ => rfl) (AV.scal_rep h4 hr)
end

def freshB (st : St) : Own → Bool
  | [] => true
  | (g, _) :: l => Nat.blt g 1000 && noRefT g st.t && noRefH g st.own && freshB st l
def Fresh (st : St) (A : Own) : Prop := ∀ p ∈ A, p.1 < 1000 ∧ NoT p.1 st.t ∧ NoH p.1 st.own
theorem freshB_mem {st : St} : ∀ {A : Own}, freshB st A = true → Fresh st A
  | [], _, p, hp => by cases hp
  | (g, ob) :: l, h, p, hp => by
    simp only [freshB, Bool.and_eq_true] at h
    rcases List.mem_cons.1 hp with rfl | hp
    · exact ⟨by simpa [Nat.blt_eq] using h.1.1.1, noT_of h.1.1.2, noH_of h.1.2⟩
    · exact freshB_mem h.2 p hp
theorem liftV_refs (g : Nat) (v : Value) : (liftV v).refs g = false := by
  unfold liftV
  split <;> first | rfl | (split <;> rfl)
theorem ev_refs {st : St} {g : Nat} (h : NoT g st.t) (x : Operand) : (st.ev x).refs g = false := by
  cases x with
  | tmp t =>
    show ((lk st.t t).getD .any).refs g = false
    cases e : lk st.t t with
    | none => rfl
    | some b => exact h _ _ e
  | const v => exact liftV_refs g v
  | func f => rfl
  | global _ => rfl

mutual
def AV.sub (l : List AV) : AV → Bool
  | .optr h _ => l.any fun a => a.refs h
  | .osl h => l.any fun a => a.refs h
  | .osb h _ _ _ => l.any fun a => a.refs h
  | .fn _ cs => AV.subL l cs
  | .agg cs => AV.subL l cs
  | .tup cs => AV.subL l cs
  | .whn _ a => a.sub l
  | .any | .bit | .fv _ | .nil | .fptr _ => true
def AV.subL (l : List AV) : List AV → Bool
  | [] => true
  | a :: as => a.sub l && AV.subL l as
end
mutual
theorem AV.sub_refs {l : List AV} {g : Nat} (hl : ∀ a ∈ l, a.refs g = false) : ∀ {a : AV}, a.sub l = true → a.refs g = false
  | .any, _ => rfl
  | .bit, _ => rfl
  | .fv _, _ => rfl
  | .nil, _ => rfl
  | .fptr _, _ => rfl
  | .optr h _, hs => by
    simp only [AV.sub, List.any_eq_true] at hs
    obtain ⟨a, ha, hr⟩ := hs
    simp only [AV.refs]
    cases e : Nat.beq h g with
    | false => rfl
    | true => have := Nat.eq_of_beq_eq_true e; subst this; rw [hl a ha] at hr; cases hr
  | .osl h, hs => by
    simp only [AV.sub, List.any_eq_true] at hs
    obtain ⟨a, ha, hr⟩ := hs
    simp only [AV.refs]
    cases e : Nat.beq h g with
    | false => rfl
    | true => have := Nat.eq_of_beq_eq_true e; subst this; rw [hl a ha] at hr; cases hr
  | .osb h _ _ _, hs => by
    simp only [AV.sub, List.any_eq_true] at hs
    obtain ⟨a, ha, hr⟩ := hs
    simp only [AV.refs]
    cases e : Nat.beq h g with
    | false => rfl
    | true => have := Nat.eq_of_beq_eq_true e; subst this; rw [hl a ha] at hr; cases hr
  | .fn _ cs, h => AV.subL_refs hl (as := cs) h
  | .agg cs, h => AV.subL_refs hl (as := cs) h
  | .tup cs, h => AV.subL_refs hl (as := cs) h
  | .whn _ a, h => AV.sub_refs hl (a := a) h
theorem AV.subL_refs {l : List AV} {g : Nat} (hl : ∀ a ∈ l, a.refs g = false) : ∀ {as : List AV}, AV.subL l as = true → AV.refsL g as = false
  | [], _ => rfl
  | a :: as, h => by
    simp only [AV.subL, Bool.and_eq_true] at h
    simp only [AV.refsL, Bool.or_eq_false_iff]
    exact ⟨AV.sub_refs hl h.1, AV.subL_refs hl h.2⟩
end
def AV.strip : AV → AV
  | .whn _ a => a
  | a => a
def gok (c : Prop) : AV → Prop
  | .whn c' _ => c → c'
  | _ => True
def Und (c : Prop) (a b : AV) : Prop := (c → AV.Le a b) ∧ ∀ g, a.refs g = false → b.refs g = false
theorem Und.strip {c : Prop} {a : AV} (h : gok c a) : Und c a a.strip := by
  refine ⟨fun hc σ Z w v hr => ?_, fun g hg => ?_⟩
  · cases a <;> first | exact hr | exact hr.1 (h hc)
  · cases a <;> first | exact hg
theorem Und.refl {c : Prop} (a : AV) : Und c a a := ⟨fun _ => .refl a, fun _ h => h⟩
theorem Und.part {c c' p : Prop} {a : AV} (h : c → (c' ↔ p)) : Und c (.whn c' a) (.whn p a) :=
  ⟨fun hc σ Z w v hr => ⟨fun hp => hr.1 ((h hc).2 hp), fun hp => hr.2 (fun hc' => hp ((h hc).1 hc'))⟩, fun _ hg => hg⟩
inductive GVal (want : Bool) : AV → Prop → Prop
  | b {b : Bool} : GVal want (.fv (.bool b)) (b = want)
  | w {c : Prop} {b : Bool} : GVal want (.whn c (.fv (.bool b))) (c ∧ b = want)
theorem GVal.spec {want : Bool} {a : AV} {c : Prop} (h : GVal want a c) {σ : Nat → Value} {Z : Nat → Prop} {w : World} {v : Value} (hr : a.Rep σ Z w v) : (c ↔ v = .bool want) := by
  cases h with
  | @b b =>
    have : v = .bool b := hr
    subst this
    simp
  | @w c b =>
    by_cases hc : c
    · have : v = .bool b := hr.1 hc
      subst this
      simp [hc]
    · have : v = undef := hr.2 hc
      subst this
      simp [hc, undef]

def rmv (g : Nat) : Own → Own
  | [] => []
  | (k, ob) :: l => match Nat.beq k g with
    | true => rmv g l
    | false => (k, ob) :: rmv g l
def setC : List AV → Nat → List AV → Option (List AV)
  | cs, 0, [] => some cs
  | _ :: cs, 0, u :: us => match setC cs 0 us with
    | some r => some (u :: r)
    | none => none
  | c :: cs, n + 1, us => match setC cs n us with
    | some r => some (c :: r)
    | none => none
  | _, _, _ => none
theorem setC_eq : ∀ {cs : List AV} {n : Nat} {us r : List AV}, setC cs n us = some r → n + us.length ≤ cs.length ∧ r = cs.take n ++ us ++ cs.drop (n + us.length)
  | cs, 0, [], r, h => by
    have : some cs = some r := by cases cs <;> exact h
    obtain rfl := Option.some.inj this
    simp
  | _ :: cs, 0, u :: us, r, h => by
    simp only [setC] at h
    split at h
    · rename_i r' hr
      obtain rfl := Option.some.inj h
      obtain ⟨h1, h2⟩ := setC_eq hr
      refine ⟨by simp at h1 ⊢; omega, ?_⟩
      rw [h2]
      simp
    · cases h
  | c :: cs, n + 1, us, r, h => by
    simp only [setC] at h
    split at h
    · rename_i r' hr
      obtain rfl := Option.some.inj h
      obtain ⟨h1, h2⟩ := setC_eq hr
      refine ⟨by simp; omega, ?_⟩
      rw [h2, show n + 1 + us.length = (n + us.length) + 1 from by omega]
      simp
    · cases h
  | [], 0, _ :: _, _, h => by cases h
  | [], _ + 1, _, _, h => by cases h
def OB.put (ob : OB) (cs : List AV) : OB :=
  match ob with
  | .box t _ => .box t cs
  | .row t s n _ => .row t s n cs
def onesB : List AV → Bool
  | [] => true
  | a :: as => a.one && onesB as
def sizeB (T : Tbl) (t n : Nat) : Bool :=
  match lk T.one t with
  | some _ => Nat.beq n 1
  | none => match lk T.agg t with
    | some k => Nat.beq n k
    | none => false
inductive Repl (g : Nat) (ob ob' : OB) : Own → Own → Prop
  | here {l : Own} : Repl g ob ob' ((g, ob) :: l) ((g, ob') :: l)
  | there {k : Nat} {x : OB} {l l' : Own} : Nat.beq k g = false → Repl g ob ob' l l' → Repl g ob ob' ((k, x) :: l) ((k, x) :: l')
theorem Repl.lk {g : Nat} {ob ob' : OB} {l l' : Own} (h : Repl g ob ob' l l') : lk l g = some ob ∧ ∀ i, lk l' i = lk ((g, ob') :: l) i := by
  induction h with
  | here => exact ⟨lk_hit _ _ _, fun i => by simp only [lk_cons]; split <;> rfl⟩
  | @there k x l l' hk _ ih =>
    have hne : k ≠ g := by rintro rfl; simp at hk
    refine ⟨by rw [lk_skip _ _ hne]; exact ih.1, fun i => ?_⟩
    have := ih.2 i
    simp only [lk_cons] at this ⊢
    by_cases h1 : k = i
    · subst h1
      simp [Ne.symm hne]
    · simp [h1, this]

inductive Rmv (g : Nat) : Own → Own → Prop
  | here {ob : OB} {l : Own} : lk l g = none → Rmv g ((g, ob) :: l) l
  | there {k : Nat} {x : OB} {l l' : Own} : Nat.beq k g = false → Rmv g l l' → Rmv g ((k, x) :: l) ((k, x) :: l')
theorem Rmv.lk {g : Nat} {l l' : Own} (h : Rmv g l l') : ∀ i ob, lk l' i = some ob → i ≠ g ∧ lk l i = some ob := by
  induction h with
  | @here ob l hn =>
    intro i x hx
    have hne : i ≠ g := by rintro rfl; rw [hn] at hx; cases hx
    exact ⟨hne, by rw [lk_skip _ _ (Ne.symm hne)]; exact hx⟩
  | @there k y l l' hk _ ih =>
    intro i x hx
    rw [lk_cons] at hx ⊢
    split at hx
    · rename_i e
      subst e
      exact ⟨by rintro rfl; simp at hk, by rw [if_pos rfl]; exact hx⟩
    · rename_i e
      rw [if_neg e]
      exact ih i x hx
def RmvP (g : Nat) (H H' : Own) : Prop := lk H' g = none ∧ ∀ i, i ≠ g → lk H' i = lk H i
theorem RmvP.lk {g : Nat} {H H' : Own} (h : RmvP g H H') (i : Nat) (ob : OB) (hi : lk H' i = some ob) : i ≠ g ∧ lk H i = some ob := by
  have hne : i ≠ g := by rintro rfl; rw [h.1] at hi; cases hi
  exact ⟨hne, by rw [← h.2 i hne]; exact hi⟩
theorem Rmv.p {g : Nat} {l l' : Own} (h : Rmv g l l') : RmvP g l l' := by
  induction h with
  | @here ob l hn => exact ⟨hn, fun i hi => (lk_skip _ _ (Ne.symm hi)).symm⟩
  | @there k y l l' hk _ ih =>
    have hne : k ≠ g := by rintro rfl; simp at hk
    refine ⟨by rw [lk_skip _ _ hne]; exact ih.1, fun i hi => ?_⟩
    rw [lk_cons, lk_cons, ih.2 i hi]
theorem rmv_p (g : Nat) : ∀ (l : Own), RmvP g l (rmv g l)
  | [] => ⟨rfl, fun _ _ => rfl⟩
  | (k, x) :: l => by
    obtain ⟨h1, h2⟩ := rmv_p g l
    simp only [rmv]
    split
    · rename_i e
      have := Nat.eq_of_beq_eq_true e
      subst this
      exact ⟨h1, fun i hi => by rw [lk_skip _ _ (Ne.symm hi)]; exact h2 i hi⟩
    · rename_i e
      have hne : k ≠ g := by rintro rfl; simp at e
      exact ⟨by rw [lk_skip _ _ hne]; exact h1, fun i hi => by rw [lk_cons, lk_cons, h2 i hi]⟩
inductive ABase (H : Own) (e s : Nat) : AV → Nat → List AV → Own → Prop
  | nil : ABase H e s .nil 0 [] H
  | own {g n : Nat} {cs : List AV} {H' : Own} : lk H g = some (.row e s n cs) → RmvP g H H' → ABase H e s (.osl g) n cs H'
inductive ASrc (H : Own) (s : Nat) : AV → Nat → List AV → Prop
  | nil : ASrc H s .nil 0 []
  | fz {us : List FV} {m : Nat} : us.length = m * s → ASrc H s (.fv (.sl us m)) m (us.map .fv)
  | own {g e m : Nat} {cs : List AV} : lk H g = some (.row e s m cs) → onesB cs = true → ASrc H s (.osl g) m cs

def loudOp : Op → Bool
  | .store _ _ _ => true
  | .call { callee := .builtin .append, .. } => true
  | _ => false

inductive OpStep (P : Program) (T : Tbl) (n : Nat) (ops : Array Oper) (i : Nat) (st : St) : St → Prop
  | loc {o : Oper} {d : Nat} {r : AV} {A : Own} : ops[i]? = some o → o.guard = none → o.dst = some d → d < n → LEff P T st.ev st.own d o.op r A → Fresh st A → OpStep P T n ops i st ⟨(d, r) :: st.t, A ++ st.own⟩
  | gst {o oj : Oper} {d j t : Nat} {want : Bool} {c : Prop} {ag r : AV} {ρ : Operand → AV} : ops[i]? = some o → o.guard = some (j, want) → o.dst = some d → d < n → ops[j]? = some oj → oj.dst = some t → t < n → lk st.t t = some ag → GVal want ag c →
      (c → (∀ x ∈ o.op.operands, Und c (st.ev x) (ρ x)) ∧ LEff P T ρ st.own d o.op r []) → r.sub (o.op.operands.toList.map st.ev) = true → loudOp o.op = false → OpStep P T n ops i st ⟨(d, .whn c r) :: st.t, st.own⟩
  | sto {o : Oper} {t g off : Nat} {x y : Operand} {ob : OB} {us cs : List AV} {own' : Own} : ops[i]? = some o → o.guard = none → o.dst = none → o.op = .store t x y → st.ev x = .optr g off → lk st.own g = some ob → cells1 (st.ev y) = some us → onesB us = true → sizeB T t us.length = true → setC ob.cells off us = some cs → (∀ i, lk own' i = lk ((g, ob.put cs) :: st.own) i) →
      OpStep P T n ops i st ⟨st.t, own'⟩
  | app {o : Oper} {d t e s b k m : Nat} {x y : Operand} {cs news : List AV} {H' : Own} : ops[i]? = some o → o.guard = none → o.dst = some d → d < n → o.op = .call { callee := .builtin .append, args := #[x, y], argTypes := #[t, t] } → lk T.sli t = some (e, s, b) →
      ABase st.own e s (st.ev x) k cs H' → ASrc st.own s (st.ev y) m news → k + m ≤ maxLen → (k + m) * b ≤ 140737488355328 → Fresh st [(d, .row e s (k + m) (cs ++ news))] → OpStep P T n ops i st ⟨(d, .osl d) :: st.t, (d, .row e s (k + m) (cs ++ news)) :: H'⟩

theorem temps_mono {A : Own} {σ σ' : Nat → Value} {Z Z' : Nat → Prop} {w w' : World} {t : List (Nat × AV)} {tm : Array Value} (h : Temps σ Z w t tm) (hz : ∀ b, Z b → Z' b) (hk : Keeps Z w w') (hs : ∀ g, (∀ p ∈ A, p.1 ≠ g) → σ' g = σ g)
    (hA : ∀ p ∈ A, NoT p.1 t) : Temps σ' Z' w' t tm :=
  h.mono hk hz fun i a hi g hg => hs g fun p hp e => by
    subst e
    rw [hA p hp _ _ hi] at hg
    cases hg

theorem Inv.same {C : Ctx} {own own' : Own} {σ : Nat → Value} {Z : Nat → Prop} {w : World} (h : Inv C own σ Z w) (hl : ∀ i, lk own' i = lk own i) : Inv C own' σ Z w :=
  ⟨h.os, h.tape, h.output, h.size, h.drawn, h.frame, h.zlt, h.zold, h.znew, fun g ob hg => h.has g ob (hl g ▸ hg), fun g ob b hg => h.mine g ob b (hl g ▸ hg), fun g g' ob ob' b hg hg' => h.inj g g' ob ob' b (hl g ▸ hg) (hl g' ▸ hg'), h.keep⟩
theorem ones_rep {σ : Nat → Value} {Z : Nat → Prop} {w : World} : ∀ {us : List AV} {vs : List Value}, onesB us = true → AV.RepL σ Z w us vs → ∀ v ∈ vs, v.oneCell' = true
  | [], [], _, _, v, hv => by cases hv
  | a :: us, u :: vs, h, hr, v, hv => by
    simp only [onesB, Bool.and_eq_true] at h
    rcases List.mem_cons.1 hv with rfl | hv
    · cases a with
      | fv f => exact FV.Rep.one hr.1
      | nil => rw [show v = _ from hr.1]; rfl
      | fptr cs => obtain ⟨b, off, e, _⟩ := hr.1; rw [e]; rfl
      | optr g off => obtain ⟨b, _, e⟩ := hr.1; rw [e]; rfl
      | osl g => obtain ⟨_, _, _, _, e⟩ := hr.1; rw [e]; rfl
      | osb g lo n s => obtain ⟨_, _, _, _, _, e, _⟩ := hr.1; rw [e]; rfl
      | fn f cs => obtain ⟨_, e, _⟩ := hr.1; rw [e]; rfl
      | _ => cases h.1
    · exact ones_rep h.2 hr.2 v hv
  | [], _ :: _, _, hr, _, _ => hr.elim
  | _ :: _, [], _, hr, _, _ => hr.elim
theorem sizeB_run {P : Program} {T : Tbl} {t n : Nat} {w : World} (hT : T.Ok P) (h : sizeB T t n = true) : (sizeOf t).run P w = .ok n w := by
  unfold sizeB at h
  split at h
  · rename_i hu
    obtain rfl := Nat.eq_of_beq_eq_true h
    have := tbl_lk hT.one hu
    exact oneT_size this
  · split at h
    · rename_i k hk
      obtain rfl := Nat.eq_of_beq_eq_true h
      exact (aggT_run (tbl_lk hT.agg hk)).2
    · cases h
theorem take_mid {α : Type} {xs vs : List α} {off n : Nat} (h : off + vs.length ≤ n) (hn : n ≤ xs.length) : (xs.take off ++ vs ++ xs.drop (off + vs.length)).take n = (xs.take n).take off ++ vs ++ (xs.take n).drop (off + vs.length) := by
  have h1 : (xs.take off).length = off := by simp; omega
  rw [List.take_take, Nat.min_eq_left (by omega), List.append_assoc, List.append_assoc, List.take_append, h1, List.take_of_length_le (by omega), List.take_append, List.take_of_length_le (show vs.length ≤ n - off by omega), List.drop_take]
  congr 3
  omega
theorem Inv.store {P : Program} {C : Ctx} {own : Own} {σ : Nat → Value} {Z : Nat → Prop} {w : World} (hI : Inv C own σ Z w) {g b off : Nat} {ob : OB} {us cs : List AV} {vs : List Value} (hg : lk own g = some ob) (hb : blk (σ g) = some b)
    (hs : setC ob.cells off us = some cs) (hu : AV.RepL σ Z w us vs) (h1 : ∀ v ∈ vs, v.oneCell' = true) :
    ∃ w', (storeCells ⟨b, off, none⟩ vs).run P w = .ok () w' ∧ Inv C ((g, ob.put cs) :: own) σ Z w' ∧ Keeps Z w w' := by
  obtain ⟨hle, rfl⟩ := setC_eq hs
  have hul := hu.length
  have hm := hI.mine g ob b hg hb
  have key : ∀ (t : TypeId) (arr : Array Value), w.heap[b]? = some (.cells arr t (0, 0)) → off + vs.length ≤ arr.size → (∀ w', (∀ k, k ≠ b → w'.heap[k]? = w.heap[k]?) → w'.heap[b]? = some (.cells (arr.toList.take off ++ vs ++ arr.toList.drop (off + vs.length)).toArray t (0, 0)) → Keeps Z w w' → (ob.put (ob.cells.take off ++ us ++ ob.cells.drop (off + us.length))).Rep σ Z w' (σ g)) →
      ∃ w', (storeCells ⟨b, off, none⟩ vs).run P w = .ok () w' ∧ Inv C ((g, ob.put (ob.cells.take off ++ us ++ ob.cells.drop (off + us.length))) :: own) σ Z w' ∧ Keeps Z w w' := by
    intro t arr ha hl hrep
    have hrun := run_storeCells_at (P := P) b off t vs 0 arr w ha (by simpa using hl) h1
    simp only [Nat.add_zero] at hrun
    have hoth : ∀ k, k ≠ b → (w.setRow b (arr.toList.take off ++ vs ++ arr.toList.drop (off + vs.length)).toArray).heap[k]? = w.heap[k]? := fun k hk => setRow_other w b k _ hk
    have hkeep : Keeps Z w (w.setRow b (arr.toList.take off ++ vs ++ arr.toList.drop (off + vs.length)).toArray) := fun k hk => hoth k (fun e => hm.2.1 (e ▸ hk))
    refine ⟨_, hrun, hI.write hg hb rfl rfl rfl rfl (by simp [World.setRow]) hoth (hrep _ hoth (setRow_heap w b arr _ t (0, 0) ha) hkeep), hkeep⟩
  cases ob with
  | box t c0 =>
    obtain ⟨b', arr, e, ha, hr⟩ := hI.has g _ hg
    rw [e] at hb
    obtain rfl : b' = b := by simpa [blk] using hb
    have hrl := hr.length
    simp only [OB.cells] at hle
    refine key t arr ha (by simp at hrl; omega) ?_
    intro w' hoth hnew hk
    refine ⟨b', _, e, hnew, ?_⟩
    have hu' := AV.RepL.mono (σ' := σ) hk (fun _ h => h) (fun _ _ => rfl) hu
    have hr' := AV.RepL.mono (σ' := σ) hk (fun _ h => h) (fun _ _ => rfl) hr
    simpa [OB.put, OB.cells, hul] using ((hr'.take off).append hu').append (hr'.drop (off + us.length))
  | row t s n c0 =>
    obtain ⟨xs, ho, hr⟩ := hI.has g _ hg
    have hrl := hr.length
    simp only [OB.cells] at hle
    rcases ho.2 with ⟨_, A, e⟩ | ⟨b', cap, cur, e, hc0, ha, hc1, hc2, hc3, hc4⟩
    · rw [e, blk_zero] at hb; cases hb
    · rw [e, blk_slice hc0] at hb
      obtain rfl := Option.some.inj hb
      have hns : n * s ≤ cur.size := by rw [hc3]; exact Nat.mul_le_mul_right s hc1
      have hol := ho.1
      refine key t cur ha (by omega) ?_
      intro w' hoth hnew hk
      have hu' := AV.RepL.mono (σ' := σ) hk (fun _ h => h) (fun _ _ => rfl) hu
      have hr' := AV.RepL.mono (σ' := σ) hk (fun _ h => h) (fun _ _ => rfl) hr
      refine ⟨xs.take off ++ vs ++ xs.drop (off + vs.length), ⟨?_, .inr ⟨b', cap, _, e, hc0, hnew, hc1, hc2, ?_, ?_⟩⟩, ?_⟩
      · simp; omega
      · simp; omega
      · rw [← hc4]
        exact take_mid (by omega) (by simpa using hns)
      · simpa [OB.put, OB.cells, hul] using ((hr'.take off).append hu').append (hr'.drop (off + us.length))

theorem onesB_map : ∀ (us : List FV), onesB (us.map .fv) = true
  | [] => rfl
  | _ :: us => onesB_map us
theorem ASrc.src {C : Ctx} {own : Own} {σ : Nat → Value} {Z : Nat → Prop} {w : World} (hI : Inv C own σ Z w) {s m : Nat} {a : AV} {news : List AV} {v : Value} (hs : 0 < s) (h : ASrc own s a m news) (hr : a.Rep σ Z w v) :
    ∃ A c vs, v = .slice A m c ∧ Src w A m vs ∧ vs.length = m * s ∧ AV.RepL σ Z w news vs ∧ ∀ u ∈ vs, u.oneCell' = true := by
  cases h with
  | nil => exact ⟨none, 0, [], hr, fun h => absurd h (by omega), by simp, trivial, by simp⟩
  | @fz us _ hl =>
    obtain ⟨A, c, hv, _, _, hc⟩ := hr
    rcases hc with rfl | ⟨b, off, hA, hz, hc⟩
    · have hm : m * s = 0 := by simpa using hl.symm
      exact ⟨A, c, [], hv, fun h => absurd hm (Nat.ne_of_gt (Nat.mul_pos h hs)), by simpa using hl, trivial, by simp⟩
    · obtain ⟨vs, h1, h2, h3⟩ := hc.toL (σ := σ)
      exact ⟨A, c, vs, hv, fun _ => ⟨b, off, hA, h2⟩, by rw [h1, hl], h3, ones_rep (onesB_map us) h3⟩
  | @own g e _ cs hg h1 =>
    obtain ⟨hv, _⟩ := hr
    obtain ⟨xs, ho, hrr⟩ := hI.has g _ hg
    obtain ⟨A, c, e1, _, _, e4⟩ := row_read ho
    rcases e4 with hx | ⟨b, rfl, h0, hc⟩
    · subst hx
      have hm0 : m = 0 := by
        have h2 : m * s = 0 := ho.1.symm
        rcases Nat.mul_eq_zero.1 h2 with h | h
        · exact h
        · omega
      exact ⟨A, c, [], by rw [hv, e1], fun h => absurd hm0 (by omega), by simp [hm0], hrr, by simp⟩
    · refine ⟨some ⟨b, 0, none⟩, c, xs, by rw [hv, e1], fun _ => ⟨b, 0, rfl, fun j u hj => by rw [Nat.zero_add]; exact hc j u hj⟩, ho.1, hrr, ones_rep h1 hrr⟩
theorem Inv.append {C : Ctx} {own own' : Own} {σ : Nat → Value} {Z : Nat → Prop} {w w' : World} (hI : Inv C own σ Z w) {d : Nat} {v' : Value} {ob : OB} {row : Option Nat} (hlow : d < 1000) (hH : NoH d own)
    (hsub : ∀ i x, lk own' i = some x → lk own i = some x ∧ ∀ b, blk (σ i) = some b → some b ≠ row) (hrow : ∀ b, row = some b → (C.O0 b ∨ C.w0.heap.size ≤ b) ∧ ¬ Z b) (hg : w.grownBy w' row) (hdr : w.drawn ≤ w'.drawn) (hv : ∀ b, blk v' = some b → (some b = row ∨ b = w.heap.size))
    (hr : ob.Rep (upd σ d v') Z w' v') : Inv C ((d, ob) :: own') (upd σ d v') Z w' ∧ Keeps Z w w' := by
  have hkeep : Keeps Z w w' := fun b hb => hg.block b (hI.zlt b hb) (fun e => (hrow b e.symm).2 hb)
  have hnew : ∀ b, blk v' = some b → (C.O0 b ∨ C.w0.heap.size ≤ b) ∧ ¬ Z b := fun b hb => by
    rcases hv b hb with h | h
    · exact hrow b h.symm
    · subst h
      exact ⟨.inr hI.size, fun hz => by have := hI.zlt _ hz; omega⟩
  refine ⟨⟨hg.os.trans hI.os, hg.tape.trans hI.tape, hg.output.trans hI.output, Nat.le_trans hI.size hg.size, Nat.le_trans hI.drawn hdr, fun b hb1 hb2 => ?_, fun b hb => Nat.lt_of_lt_of_le (hI.zlt b hb) hg.size, hI.zold, hI.znew, fun g x hx => ?_, fun g x b hx hb => ?_, fun g g' x x' b hx hx' hb hb' => ?_, fun g hg1 => ?_⟩, hkeep⟩
  · refine (hg.block b (Nat.lt_of_lt_of_le hb1 hI.size) (fun e => ?_)).trans (hI.frame b hb1 hb2)
    rcases (hrow b e.symm).1 with h | h
    · exact hb2 h
    · omega
  · rw [lk_cons] at hx
    split at hx
    · rename_i e; subst e; obtain rfl := Option.some.inj hx; rw [upd_hit]; exact hr
    · rename_i e
      obtain ⟨h1, h2⟩ := hsub g x hx
      rw [upd_skip _ _ (Ne.symm e)]
      exact (hI.has g x h1).mono hkeep (fun _ h => h) (refsL_upd v' (hH _ _ h1)) (fun b hb => hg.block b (hI.mine g x b h1 hb).2.2 (h2 b hb))
  · rw [lk_cons] at hx
    split at hx
    · rename_i e
      subst e
      obtain rfl := Option.some.inj hx
      rw [upd_hit] at hb
      exact ⟨(hnew b hb).1, (hnew b hb).2, hr.lt hb⟩
    · rename_i e
      obtain ⟨h1, h2⟩ := hsub g x hx
      rw [upd_skip _ _ (Ne.symm e)] at hb
      have := hI.mine g x b h1 hb
      exact ⟨this.1, this.2.1, Nat.lt_of_lt_of_le this.2.2 hg.size⟩
  · have key : ∀ i x, lk own' i = some x → i ≠ d → blk (upd σ d v' i) = some b → blk v' = some b → False := by
      intro i x hi hne hb1 hb2
      obtain ⟨h1, h2⟩ := hsub i x hi
      rw [upd_skip _ _ hne] at hb1
      rcases hv b hb2 with h | h
      · exact h2 b hb1 h
      · have := (hI.mine i x b h1 hb1).2.2
        omega
    rw [lk_cons] at hx hx'
    split at hx
    · rename_i e
      subst e
      split at hx'
      · rename_i e'; exact e'
      · rename_i e'
        rw [upd_hit] at hb
        exact (key g' x' hx' (Ne.symm e') hb' hb).elim
    · rename_i e
      split at hx'
      · rename_i e'
        subst e'
        rw [upd_hit] at hb'
        exact (key g x hx (Ne.symm e) hb hb').elim
      · rename_i e'
        rw [upd_skip _ _ (Ne.symm e)] at hb
        rw [upd_skip _ _ (Ne.symm e')] at hb'
        exact hI.inj g g' x x' b (hsub g x hx).1 (hsub g' x' hx').1 hb hb'
  · rw [upd_skip _ _ (by omega)]
    exact hI.keep g hg1

open Classical in
theorem LEff.cut {P : Program} {T : Tbl} {ρ : Operand → AV} {H : Own} {d : Nat} {op : Op} {r : AV} {A : Own} (h : LEff P T ρ H d op r A) : LEff P T (fun x => if x ∈ op.operands then ρ x else .any) H d op r A := by
  cases h with
  | eff h => exact .eff (h.congr fun x hx => if_pos hx)
  | @call f args ts fid cs as r e1 e2 e3 e4 =>
    refine .call (cs := cs) ?_ ?_ e3 e4
    · rw [if_pos (by simp [Op.operands, Call.operands])]; exact e1
    · have : args.toList.map (fun x => if x ∈ (Op.call { callee := .value f, args := args, argTypes := ts }).operands then ρ x else .any) = args.toList.map ρ :=
        List.map_congr_left fun x hx => by rw [if_pos]; simp [Op.operands, Call.operands]; exact .inr (by simpa using hx)
      rw [this]
      exact e2
  | @callB f args ts fid cs as r e1 e2 e3 e4 =>
    refine .callB (cs := cs) ?_ ?_ e3 e4
    · rw [if_pos (by simp [Op.operands, Call.operands])]; exact e1
    · have : args.toList.map (fun x => if x ∈ (Op.call { callee := .value f, args := args, argTypes := ts }).operands then ρ x else .any) = args.toList.map ρ :=
        List.map_congr_left fun x hx => by rw [if_pos]; simp [Op.operands, Call.operands]; exact .inr (by simpa using hx)
      rw [this]
      exact e2
section
variable {P : Program} {T : Tbl} {n : Nat} {ops : Array Oper} {i : Nat} {C : Ctx} {st st' : St} {a : Act} {w : World} {K : Act → World → Prop} {Q : Exit → Act → World → Prop}
theorem OpStep.sound (hT : T.Ok P) (h : OpStep P T n ops i st st') (hr : Rel n C st a w) (hK : ∀ a' w', Rel n C st' a' w' → K a' w') : wpOp P ops Q i K a w := by
  obtain ⟨h1, h2, σ, Z, hI, ht⟩ := hr
  cases h with
  | @loc o d r A ho hg hd hdn hE hf =>
    have hfm := hf
    unfold wpOp
    simp only [ho]
    rw [if_pos (by simp [Region.wanted, hg])]
    refine .inl (hE.sound hT (ev_rep ht) hI (fun p hp => ⟨(hfm p hp).1, (hfm p hp).2.2, fun x _ => ev_refs (hfm p hp).2.1 x⟩) ?_)
    intro v w' σ' Z' hI' hz hk hs hrv
    apply hK
    have ht' := temps_mono ht hz hk hs (fun p hp => (hfm p hp).2.1)
    refine ⟨(put_defers ..).trans h1, ?_, σ', Z', hI', ?_⟩
    · simp [Act.put, hd, h2]
    · simp only [Act.put, hd]
      exact ht'.put (by omega) hrv
  | @gst o oj d j t want c ag r ρ ho hg hd hdn hoj hjt htn hb hgv hE hfl _ =>
    have h3 := ht t _ hb
    have hspec := hgv.spec h3
    have hlt : t < a.tmps.size := by omega
    have hval : a.tmps[t]? = some (a.tmps.getD t undef) := by simp [Array.getD, hlt]
    have hy : Region.wanted o (yielded ops a.tmps) = true ↔ c := by
      rw [hspec]
      simp only [Region.wanted, hg, yielded, hoj, hjt, Option.bind_some, hval]
      cases a.tmps.getD t undef <;> simp
    unfold wpOp
    simp only [ho]
    by_cases hc : c
    · rw [if_pos (hy.2 hc)]
      classical
      obtain ⟨hgo, hE⟩ := hE hc
      have hE' : LEff P T (fun x => if x ∈ o.op.operands then ρ x else .any) st.own d o.op r [] := LEff.cut hE
      refine .inl (hE'.sound hT (fun x => ?_) hI (fun p hp => by cases hp) ?_)
      · by_cases hx : x ∈ o.op.operands
        · simp only [hx, if_true]; exact (hgo x hx).1 hc _ _ _ _ (ev_rep ht x)
        · simp only [hx, if_false]; trivial
      intro v w' σ' Z' hI' hz hk hs hrv
      apply hK
      refine ⟨(put_defers ..).trans h1, by simp [Act.put, hd, h2], σ', Z', hI', ?_⟩
      simp only [Act.put, hd]
      exact (temps_mono (A := []) ht hz hk hs (fun p hp => by cases hp)).put (by omega) ⟨fun _ => hrv, fun h => absurd hc h⟩
    · rw [if_neg (fun h => hc (hy.1 h))]
      apply hK
      refine ⟨(put_defers ..).trans h1, by simp [Act.put, hd, h2], σ, Z, hI, ?_⟩
      simp only [Act.put, hd]
      exact ht.put (by omega) ⟨fun h => absurd h hc, fun _ => rfl⟩
  | @app o d t e s b k m x y cs news H' ho hg hd hdn hop hT' hB hS h63 hby hf =>
    obtain ⟨hlow, hnT, hnH⟩ := hf (d, .row e s (k + m) (cs ++ news)) (by simp)
    obtain ⟨hu, hsz, i', z, hi1, hi2, hi3, hi4, hi5⟩ := sliT_spec (tbl_lk hT.sli hT')
    obtain ⟨A, c, vs, hyv, hsrc, hvl, hnr, hones⟩ := hS.src hI hsz (ev_rep ht y)
    have hel : Elem P t e s b := ⟨hu, hsz, i', z, hi1, hi2, hi3, hi4, hi5⟩
    have hbase : ∃ v xs, a.eval x = v ∧ rowZ w e s v k xs ∧ AV.RepL σ Z w cs xs ∧ AV.refsL d cs = false ∧ (∀ b, blk v = some b → (C.O0 b ∨ C.w0.heap.size ≤ b) ∧ ¬ Z b) ∧ (∀ i x, lk H' i = some x → lk st.own i = some x ∧ ∀ b, blk (σ i) = some b → some b ≠ blk v) := by
      have hxr := ev_rep ht x
      generalize st.ev x = ax at hB hxr
      cases hB with
      | nil =>
        refine ⟨.slice none 0 0, [], hxr, ⟨by simp, .inl ⟨rfl, none, rfl⟩⟩, trivial, rfl, ?_, ?_⟩
        · intro b hb
          cases hb
        · intro i x hi
          exact ⟨hi, fun b _ h => by cases h⟩
      | @own g _ _ _ hg' hrm =>
        obtain ⟨hv, _⟩ := hxr
        obtain ⟨xs, ho1, ho2⟩ := hI.has g _ hg'
        refine ⟨σ g, xs, hv, ho1, ho2, hnH _ (.row e s k cs) hg', fun b hb => ?_, fun i x hi => ?_⟩
        · have := hI.mine g _ b hg' hb
          exact ⟨this.1, this.2.1⟩
        · obtain ⟨h1, h2⟩ := hrm.lk i x hi
          exact ⟨h2, fun b hb e' => h1 (hI.inj i g x _ b h2 hg' hb e'.symm)⟩
    obtain ⟨v, xs, hxv, hown, hcr, hcref, hmine, hsub⟩ := hbase
    obtain ⟨v', w', hrun, hown', hgr, hdr, hbv⟩ := run_appZ (P := P) w hel c hvl hsrc hones h63 hby (ty := o.type) hown
    unfold wpOp
    simp only [ho]
    rw [if_pos (by simp [Region.wanted, hg])]
    refine .inl (wp_val (v := v') (w' := w') (by simp [execOp, hop, resolve, invoke, builtin, hxv, hyv, hrun]) ?_)
    have hkeep : Keeps Z w w' := fun b hb => hgr.block b (hI.zlt b hb) (fun e => (hmine b e.symm).2 hb)
    have hv' : ∃ A n c, v' = .slice A n c := by
      rcases hown'.2 with ⟨_, A, e⟩ | ⟨_, _, _, e, _⟩ <;> exact ⟨_, _, _, e⟩
    have hrefs : AV.refsL d (cs ++ news) = false := refsL_append hcref (by
      generalize st.ev y = ay at hS
      cases hS with
      | nil => rfl
      | fz _ => exact refsL_fv _
      | own hg2 _ => exact hnH _ (.row _ s m news) hg2)
    have hrep : AV.RepL (upd σ d v') Z w' (cs ++ news) (xs ++ vs) := AV.RepL.mono hkeep (fun _ h => h) (refsL_upd v' hrefs) (hcr.append hnr)
    obtain ⟨hI', _⟩ := hI.append (d := d) (v' := v') (ob := .row e s (k + m) (cs ++ news)) hlow hnH hsub hmine hgr hdr hbv ⟨_, hown', hrep⟩
    apply hK
    refine ⟨(put_defers ..).trans h1, by simp [Act.put, hd, h2], _, Z, hI', ?_⟩
    simp only [Act.put, hd]
    refine Temps.put (ht.mono hkeep (fun _ h => h) (fun i a hi => refs_upd v' (hnT _ _ hi))) (by omega) ⟨by rw [upd_hit], hv'⟩
  | @sto o t g off x y ob us cs own' ho hg hd hop hx hob hy h1s hsz hset hrep =>
    have e1 := ev_rep ht x
    rw [hx] at e1
    obtain ⟨b, hb, hv⟩ := e1
    have hu := cells1_rep hy (ev_rep ht y)
    have hul := hu.length
    obtain ⟨w', hrun, hI', hk⟩ := hI.store (P := P) hob hb hset hu (ones_rep h1s hu)
    unfold wpOp
    simp only [ho]
    rw [if_pos (by simp [Region.wanted, hg])]
    refine .inl (wp_skp (w' := w') ?_ ?_)
    · have hsz' := sizeB_run (w := w) hT hsz
      have hl : (a.eval y).cells.size = us.length := by rw [← hul]; simp
      simp [execOp, hop, hv, Instr.storeAt, Instr.sureAddr, storeVar, hsz', hl, hrun]
    · apply hK
      refine ⟨(put_defers ..).trans h1, by simp [Act.put, hd, h2], σ, Z, hI'.same hrep, ?_⟩
      simp only [Act.put, hd]
      exact ht.mono hk (fun _ h => h) (fun _ _ _ _ _ => rfl)
end

end Go.Proofs.YtmidechdlbcepaaGreat