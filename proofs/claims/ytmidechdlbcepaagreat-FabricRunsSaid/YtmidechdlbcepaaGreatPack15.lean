import Derived.Test.YtmidechdlbcepaaGreatPack11
import Derived.Test.YtmidechdlbcepaaGreatPack10
set_option linter.unusedSimpArgs false
set_option linter.unusedVariables false
namespace Go.Proofs.YtmidechdlbcepaaGreat
open Go.RowKit
def oneT (P : Program) (t : TypeId) : Option Unit :=
  match P.underlying t with
  | some (.struct _) => none
  | some (.array _ _) => none
  | some _ => match (P.info? t).map (·.size) with
    | some 1 => some ()
    | _ => none
  | none => none
def aggT (P : Program) (t : TypeId) : Option Nat :=
  match P.underlying t with
  | some (.struct _) => (P.info? t).map (·.size)
  | some (.array _ _) => (P.info? t).map (·.size)
  | _ => none
def fldT (P : Program) (t : TypeId) (j : Nat) : Option Nat :=
  match P.underlying t with
  | some (.struct fs) => match fs[j]? with
    | some f => match (P.info? f.type).map (·.size) with
      | some (_ + 1) => some f.offset
      | _ => none
    | none => none
  | _ => none
def arrT (P : Program) (t : TypeId) : Option (Nat × Nat) :=
  match P.underlying t with
  | some (.array n e) => match (P.info? e).map (·.size) with
    | some s => some (n, s)
    | none => none
  | _ => none
def aelT (P : Program) (t : TypeId) : Option Nat :=
  match P.underlying t with
  | some (.array _ e) => some e
  | _ => none
def sliT (P : Program) (t : TypeId) : Option (Nat × Nat × Nat) :=
  match P.underlying t with
  | some (.slice e) => match P.info? e with
    | some i => match i.zero with
      | some z => match i.size with
        | s + 1 => match Nat.beq z.cells.size (s + 1) with
          | true => some (e, s + 1, i.bytes)
          | false => none
        | 0 => none
      | none => none
    | none => none
  | _ => none
def bytT (P : Program) (t : TypeId) : Option Unit :=
  match P.info? t with
  | some i => match i.zero with
    | some (.int .u8 n) => match decide (n = 0) && Nat.beq i.size 1 && Nat.beq i.bytes 1 with
      | true => some ()
      | false => none
    | _ => none
  | none => none
def strT (P : Program) (t : TypeId) : Option Unit :=
  match P.underlying t with
  | some .string => some ()
  | _ => none
def booT (P : Program) (t : TypeId) : Option Unit :=
  match P.underlying t with
  | some .bool => some ()
  | _ => none
def kindT (P : Program) (t : TypeId) : Option IntKind :=
  match P.underlying t with
  | some (.int k) => some k
  | _ => none
def eqcT (P : Program) (t : TypeId) : Option (List Leaf) :=
  match leaves P 20 t with
  | some l => match eqOk P 20 t && lenOk P 20 t && aggB P t && !P.eqGuardType P.depth t with
    | true => some l
    | false => none
  | none => none
theorem eqcT_spec {P : Program} {t : TypeId} {l : List Leaf} (h : eqcT P t = some l) : leaves P 20 t = some l ∧ eqOk P 20 t = true ∧ lenOk P 20 t = true ∧ aggB P t = true ∧ P.eqGuardType P.depth t = false := by
  unfold eqcT at h
  split at h
  · rename_i l' hl
    split at h
    · rename_i hb
      obtain rfl := Option.some.inj h
      simp only [Bool.and_eq_true, Bool.not_eq_true'] at hb
      exact ⟨hl, hb.1.1.1, hb.1.1.2, hb.1.2, hb.2⟩
    · cases h
  · cases h
def liftZ : Value → AV
  | .int k n => .fv (.int k n)
  | .bool b => .fv (.bool b)
  | .string s => match Nat.ble s.size 1000 with
    | true => .fv (.str s)
    | false => .any
  | .slice none 0 0 => .nil
  | _ => .any
def zeroT (P : Program) (t : TypeId) : Option (List AV) :=
  match P.info? t with
  | some i => match i.zero with
    | some z => some (z.cells.toList.map liftZ)
    | none => none
  | none => none
theorem liftZ_rep (σ : Nat → Value) (Z : Nat → Prop) (w : World) (v : Value) : (liftZ v).Rep σ Z w v := by
  unfold liftZ
  split
  · rfl
  · rfl
  · rename_i s
    split
    · rename_i h
      have := Nat.le_of_ble_eq_true h
      exact ⟨rfl, by unfold maxLen; omega⟩
    · trivial
  · rfl
  · trivial
theorem liftZ_repL (σ : Nat → Value) (Z : Nat → Prop) (w : World) : ∀ (vs : List Value), AV.RepL σ Z w (vs.map liftZ) vs
  | [] => trivial
  | v :: vs => ⟨liftZ_rep σ Z w v, liftZ_repL σ Z w vs⟩

def plcT (P : Program) (t : TypeId) : Option (List (Nat × Nat)) :=
  match P.underlying t with
  | some (.struct fs) => fs.toList.mapM fun f => (P.info? f.type).map fun i => (f.offset, i.size)
  | some (.array n e) => match P.info? e with
    | some i => some ((List.range n).map fun k => (k * i.size, i.size))
    | none => none
  | _ => none
structure Tbl where
  one : List (Nat × Unit)
  agg : List (Nat × Nat)
  fld : List (Nat × List (Nat × Nat))
  arr : List (Nat × (Nat × Nat))
  sli : List (Nat × (Nat × Nat × Nat))
  zero : List (Nat × List AV)
  str : List (Nat × Unit)
  kind : List (Nat × IntKind)
  plc : List (Nat × List (Nat × Nat))
  eqt : List (Nat × List Leaf)
  ael : List (Nat × Nat)
  byt : List (Nat × Unit)
  boo : List (Nat × Unit)
structure Tbl.Ok (P : Program) (T : Tbl) : Prop where
  one : T.one.map (fun p => oneT P p.1) = T.one.map (fun p => some p.2)
  agg : T.agg.map (fun p => aggT P p.1) = T.agg.map (fun p => some p.2)
  fld : T.fld.map (fun p => p.2.map fun q => fldT P p.1 q.1) = T.fld.map (fun p => p.2.map fun q => some q.2)
  arr : T.arr.map (fun p => arrT P p.1) = T.arr.map (fun p => some p.2)
  sli : T.sli.map (fun p => sliT P p.1) = T.sli.map (fun p => some p.2)
  zero : T.zero.map (fun p => zeroT P p.1) = T.zero.map (fun p => some p.2)
  str : T.str.map (fun p => strT P p.1) = T.str.map (fun p => some p.2)
  kind : T.kind.map (fun p => kindT P p.1) = T.kind.map (fun p => some p.2)
  plc : T.plc.map (fun p => plcT P p.1) = T.plc.map (fun p => some p.2)
  eqt : T.eqt.map (fun p => eqcT P p.1) = T.eqt.map (fun p => some p.2)
  ael : T.ael.map (fun p => aelT P p.1) = T.ael.map (fun p => some p.2)
  byt : T.byt.map (fun p => bytT P p.1) = T.byt.map (fun p => some p.2)
  boo : T.boo.map (fun p => booT P p.1) = T.boo.map (fun p => some p.2)

theorem lk_mem {α : Type} : ∀ {l : List (Nat × α)} {i : Nat} {x : α}, lk l i = some x → (i, x) ∈ l
  | [], _, _, h => by simp [lk] at h
  | (k, y) :: l, i, x, h => by
    rw [lk_cons] at h
    split at h
    · rename_i e; subst e; obtain rfl := Option.some.inj h; exact List.mem_cons_self
    · exact List.mem_cons_of_mem _ (lk_mem h)
theorem map_mem {α γ : Type} {f : α → γ} {g : α → γ} {l : List α} (h : l.map f = l.map g) {x : α} (hx : x ∈ l) : f x = g x := by
  induction l with
  | nil => cases hx
  | cons y l ih =>
    simp only [List.map_cons, List.cons.injEq] at h
    rcases List.mem_cons.1 hx with rfl | hx
    · exact h.1
    · exact ih h.2 hx
theorem tbl_lk {α : Type} {f : Nat → Option α} {l : List (Nat × α)} (h : l.map (fun p => f p.1) = l.map (fun p => some p.2)) {i : Nat} {x : α} (hx : lk l i = some x) : f i = some x := map_mem h (lk_mem hx)

section
variable {P : Program} {w : World} {t : TypeId}
theorem oneT_run (h : oneT P t = some ()) : (isAgg t).run P w = .ok false w := by
  unfold oneT at h
  split at h
  · cases h
  · cases h
  · rename_i d _ _ hu
    simp only [isAgg, Sem.run_bind, run_underlying hu, Result.andThen_ok]
    rfl
  · cases h
theorem oneT_size (h : oneT P t = some ()) : (sizeOf t).run P w = .ok 1 w := by
  unfold oneT at h
  split at h
  · cases h
  · cases h
  · split at h
    · rename_i hi
      cases hx : P.info? t with
      | none => rw [hx] at hi; cases hi
      | some i =>
        rw [hx] at hi
        have : i.size = 1 := by simpa using hi
        simp [sizeOf, typeInfo, hx, this]
    · cases h
  · cases h
theorem aggT_run {n : Nat} (h : aggT P t = some n) : (isAgg t).run P w = .ok true w ∧ (sizeOf t).run P w = .ok n w := by
  unfold aggT at h
  have key : ∀ d, P.underlying t = some d → (P.info? t).map (·.size) = some n → (match d with | .struct _ | .array _ _ => (pure true : Sem Bool) | _ => pure false).run P w = .ok true w → (isAgg t).run P w = .ok true w ∧ (sizeOf t).run P w = .ok n w := by
    intro d hu hi hd
    refine ⟨by simp only [isAgg, Sem.run_bind, run_underlying hu, Result.andThen_ok]; exact hd, ?_⟩
    cases hx : P.info? t with
    | none => rw [hx] at hi; cases hi
    | some i =>
      rw [hx] at hi
      obtain rfl := Option.some.inj hi
      simp [sizeOf, typeInfo, hx]
  split at h
  · rename_i fs hu
    exact key _ hu h rfl
  · rename_i k e hu
    exact key _ hu h rfl
  · cases h
theorem fldT_run {j off : Nat} (h : fldT P t j = some off) (b o : Nat) : (Instr.fieldAt t (.pointer (some ⟨b, o, none⟩)) j).run P w = .ok (.pointer (some ⟨b, o + off, none⟩)) w := by
  unfold fldT at h
  split at h
  · rename_i fs hu
    split at h
    · rename_i f hf
      split at h
      · rename_i n hn
        obtain rfl := Option.some.inj h
        cases hx : P.info? f.type with
        | none => rw [hx] at hn; cases hn
        | some i =>
          rw [hx] at hn
          have hi : i.size = n + 1 := by simpa using hn
          simp [Instr.fieldAt, run_underlying hu, hf, Instr.sureAddr, fieldPlace, sizeOf, typeInfo, hx, hi, Addr.add_lit]
      · cases h
    · cases h
  · cases h
theorem arrT_run {n s : Nat} (h : arrT P t = some (n, s)) : ∃ e, P.underlying t = some (.array n e) ∧ (sizeOf e).run P w = .ok s w := by
  unfold arrT at h
  split at h
  · rename_i k e hu
    split at h
    · rename_i s' hs
      simp only [Option.some.injEq, Prod.mk.injEq] at h
      obtain ⟨rfl, rfl⟩ := h
      refine ⟨e, hu, ?_⟩
      cases hx : P.info? e with
      | none => rw [hx] at hs; cases hs
      | some i =>
        rw [hx] at hs
        obtain rfl := Option.some.inj hs
        simp [sizeOf, typeInfo, hx]
    · cases h
  · cases h
theorem sliT_spec {e s by_ : Nat} (h : sliT P t = some (e, s, by_)) : P.underlying t = some (.slice e) ∧ 0 < s ∧ ∃ i z, P.info? e = some i ∧ i.zero = some z ∧ i.size = s ∧ i.bytes = by_ ∧ z.cells.size = s := by
  unfold sliT at h
  split at h
  · rename_i e' hu
    split at h
    · rename_i i hi
      split at h
      · rename_i z hz
        split at h
        · rename_i s' hs
          split at h
          · rename_i hb
            simp only [Option.some.injEq, Prod.mk.injEq] at h
            obtain ⟨rfl, rfl, rfl⟩ := h
            exact ⟨hu, by omega, i, z, hi, hz, hs, rfl, Nat.eq_of_beq_eq_true hb⟩
          · cases h
        · cases h
      · cases h
    · cases h
  · cases h
theorem booT_spec (h : booT P t = some ()) : P.underlying t = some .bool := by
  unfold booT at h
  split at h
  · assumption
  · cases h
theorem strT_spec (h : strT P t = some ()) : P.underlying t = some .string := by
  unfold strT at h
  split at h
  · assumption
  · cases h
theorem bytT_spec (h : bytT P t = some ()) : ∃ i, P.info? t = some i ∧ i.zero = some (.int .u8 0) ∧ i.size = 1 ∧ i.bytes = 1 := by
  unfold bytT at h
  split at h
  · rename_i i hi
    split at h
    · rename_i n hz
      split at h
      · rename_i hb
        simp only [Bool.and_eq_true, decide_eq_true_eq] at hb
        obtain ⟨⟨rfl, h1⟩, h2⟩ := hb
        exact ⟨i, hi, hz, Nat.eq_of_beq_eq_true h1, Nat.eq_of_beq_eq_true h2⟩
      · cases h
    · cases h
  · cases h
theorem kindT_spec {k : IntKind} (h : kindT P t = some k) : P.underlying t = some (.int k) := by
  unfold kindT at h
  split at h
  · obtain rfl := Option.some.inj h; assumption
  · cases h
theorem zeroT_spec {cs : List AV} (h : zeroT P t = some cs) : ∃ z, (zeroValue t).run P w = .ok z w ∧ z.cells.toList.map liftZ = cs := by
  unfold zeroT at h
  split at h
  · rename_i i hi
    split at h
    · rename_i z hz
      obtain rfl := Option.some.inj h
      exact ⟨z, by simp [zeroValue, typeInfo, hi, hz], rfl⟩
    · cases h
  · cases h
theorem run_load_one {b o : Nat} {u : Value} (h : oneT P t = some ()) (hc : w.cell? ⟨b, o, none⟩ = some u) : (Instr.loadAt t (.pointer (some ⟨b, o, none⟩))).run P w = .ok u w := by
  simp only [Instr.loadAt, Instr.sureAddr, loadVar, Sem.run_bind, Sem.run_pure, Result.andThen_ok, oneT_run h]
  simp [load, Sem.run, hc]
theorem run_load_agg {b o n : Nat} {us : List Value} (h : aggT P t = some n) (hl : us.length = n) (hc : ∀ j u, us[j]? = some u → w.cell? ⟨b, o + j, none⟩ = some u) : (Instr.loadAt t (.pointer (some ⟨b, o, none⟩))).run P w = .ok (.agg us.toArray) w := by
  obtain ⟨h1, h2⟩ := aggT_run (w := w) h
  subst hl
  have := run_loadCells_list (P := P) (w := w) ⟨b, o, none⟩ us (fun j v hj => by rw [Addr.add_lit]; exact hc j v hj)
  simp [Instr.loadAt, Instr.sureAddr, loadVar, h1, h2, this]
end

theorem wp_val {P : Program} {o : Oper} {a : Act} {w w' : World} {K : Act → World → Prop} {Q : Exit → Act → World → Prop} {v : Value} (h : (execOp a.eval o).run P w = .ok (.value v) w') (hk : K (a.put o.dst v) w') : o.wp P a w K Q := by
  unfold Oper.wp
  rw [h]
  exact hk
theorem wp_skp {P : Program} {o : Oper} {a : Act} {w w' : World} {K : Act → World → Prop} {Q : Exit → Act → World → Prop} (h : (execOp a.eval o).run P w = .ok .skip w') (hk : K (a.put o.dst undef) w') : o.wp P a w K Q := by
  unfold Oper.wp
  rw [h]
  exact hk
end Go.Proofs.YtmidechdlbcepaaGreat