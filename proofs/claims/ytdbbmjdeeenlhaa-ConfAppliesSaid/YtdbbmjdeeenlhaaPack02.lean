/- '==' on plain data of several cells: it compares cell by cell. -/
import Derived.Test.YtdbbmjdeeenlhaaPack01
import Derived.ChangeKeysEq
import Derived.IntWalk
namespace Go.Proofs.Ytdbbmjdeeenlhaa
open Go.RowKit

def beqV : Value → Value → Bool
  | .int _ a, .int _ b => a == b
  | .bool a, .bool b => a == b
  | .string a, .string b => a.toList == b.toList
  | _, _ => false
def beqL : List Value → List Value → Bool
  | [], [] => true
  | a :: as, b :: bs => beqV a b && beqL as bs
  | _, _ => false
def shpV : Leaf → Value → Prop
  | .int, .int .i64 _ => True
  | .byte, .int .u8 _ => True
  | .bool, .bool _ => True
  | .str, .string _ => True
  | _, _ => False
def Shp : List Leaf → List Value → Prop
  | [], [] => True
  | l :: ls, v :: vs => shpV l v ∧ Shp ls vs
  | _, _ => False

theorem Shp.length : ∀ {ls : List Leaf} {vs : List Value}, Shp ls vs → vs.length = ls.length
  | [], [], _ => rfl
  | _ :: _, _ :: _, h => by simp [Shp.length h.2]
theorem Shp.split : ∀ {ls ms : List Leaf} {vs : List Value}, Shp (ls ++ ms) vs → Shp ls (vs.take ls.length) ∧ Shp ms (vs.drop ls.length)
  | [], ms, vs, h => ⟨by simp [Shp], by simpa using h⟩
  | l :: ls, ms, [], h => h.elim
  | l :: ls, ms, v :: vs, h => by
    have ih := Shp.split (ls := ls) h.2
    exact ⟨⟨h.1, ih.1⟩, ih.2⟩
theorem beqL_append : ∀ {as cs : List Value} {bs ds : List Value}, as.length = bs.length → beqL (as ++ cs) (bs ++ ds) = (beqL as bs && beqL cs ds)
  | [], cs, [], ds, _ => by simp [beqL]
  | a :: as, cs, b :: bs, ds, h => by
    simp only [List.cons_append, beqL]
    rw [beqL_append (by simpa using h), Bool.and_assoc]

def aggB (P : Program) (t : TypeId) : Bool := match P.underlying t with | some (.struct _) | some (.array _ _) => true | _ => false
/-- A value out of its cells. -/
def packV (P : Program) (t : TypeId) (cs : List Value) : Value := if aggB P t then .agg cs.toArray else cs.headD undef

/-- '==' has a meaning here: no blank field, nothing stood in. -/
def eqOk (P : Program) : Nat → TypeId → Bool
  | 0, _ => false
  | n + 1, t =>
    match P.underlying t with
    | some (.int _) | some .bool | some .string => true
    | some (.struct fs) => !P.stoodInHeld t && fs.toList.all fun f => f.name != "_" && eqOk P n f.type && (P.info? f.type).isSome
    | some (.array _ e) => eqOk P n e && (P.info? e).isSome
    | _ => false

section
variable {P : Program} (w : World)

theorem run_part_ {t : TypeId} {n : Nat} {l : List Leaf} {xs : List Value} {off : Nat} (hl : leaves P n t = some l) (hi : (P.info? t).isSome = true) (he : eqOk P n t = true) (hs : Shp l ((xs.drop off).take (P.cellsOf t))) :
    (part t xs.toArray off).run P w = .ok (packV P t ((xs.drop off).take (P.cellsOf t))) w := by
  obtain ⟨i, hi⟩ := Option.isSome_iff_exists.1 hi
  cases n with
  | zero => cases hl
  | succ n =>
    have hone : ∀ c : Leaf, l = [c] → aggB P t = false → xs.toArray[off]? = some (packV P t ((xs.drop off).take (P.cellsOf t))) := by
      rintro c rfl ha
      have hlen := hs.length
      have hne : (xs.drop off).take (P.cellsOf t) ≠ [] := by intro e; rw [e] at hlen; simp at hlen
      obtain ⟨v, rest, hv⟩ := List.exists_cons_of_ne_nil hne
      have hd : xs.drop off ≠ [] := by intro e; rw [e] at hv; simp at hv
      obtain ⟨v', rest', hv'⟩ := List.exists_cons_of_ne_nil hd
      have e0 : v = v' := by
        rw [hv'] at hv
        cases hc : P.cellsOf t with
        | zero => rw [hc] at hv; simp at hv
        | succ k => rw [hc] at hv; simp at hv; exact hv.1.symm
      rw [hv]
      have : xs[off]? = some v' := by
        have := congrArg (fun l => l[0]?) hv'
        simpa using this
      simp [packV, ha, this, e0]
    simp only [leaves] at hl
    simp only [eqOk] at he
    cases hu : P.underlying t with
    | none => simp [hu] at hl
    | some d =>
      rw [hu] at hl he
      cases d <;> simp at he hl
      case bool => simp [part, isAgg, run_underlying hu, hone _ hl.symm (by simp [aggB, hu])]
      case int k => cases k <;> simp at hl <;> simp [part, isAgg, run_underlying hu, hone _ hl.symm (by simp [aggB, hu])]
      case string => simp [part, isAgg, run_underlying hu, hone _ hl.symm (by simp [aggB, hu])]
      case struct fs => simp [part, isAgg, run_underlying hu, run_sizeOf w hi, packV, aggB, hu, List.extract_eq_take_drop]
      case array k e => simp [part, isAgg, run_underlying hu, run_sizeOf w hi, packV, aggB, hu, List.extract_eq_take_drop]

theorem drop_take_len {α : Type} (xs : List α) (off c n : Nat) (h : ((xs.drop off).take c).length = n) : (xs.drop off).take c = (xs.drop off).take n := by
  rw [← h]
  exact (take_len_take _ _).symm

/-- Every field of a type has as many cells as leaves, to the bottom. -/
def lenOk (P : Program) : Nat → TypeId → Bool
  | 0, _ => false
  | n + 1, t => (match leaves P (n + 1) t with | some l => decide (l.length = P.cellsOf t) | none => false) && match P.underlying t with
    | some (.struct fs) => fs.toList.all fun f => lenOk P n f.type
    | some (.array _ e) => lenOk P n e
    | _ => true

theorem lenOk_leaves {n : Nat} {t : TypeId} (h : lenOk P n t = true) : ∃ l, leaves P n t = some l ∧ l.length = P.cellsOf t := by
  cases n with
  | zero => cases h
  | succ n =>
    simp only [lenOk, Bool.and_eq_true] at h
    cases hl : leaves P (n + 1) t with
    | none => rw [hl] at h; simp at h
    | some l => rw [hl] at h; exact ⟨l, rfl, of_decide_eq_true h.1⟩

theorem eqFields_ok {n d : Nat} (ih : ∀ (t : TypeId) (l : List Leaf) (as bs : List Value) (w : World), leaves P n t = some l → eqOk P n t = true → lenOk P n t = true → Shp l as → Shp l bs → (Op.equalIn d t (packV P t as) (packV P t bs)).run P w = .ok (beqL as bs) w)
    (xs ys : List Value) : ∀ (fs : List Field) (off : Nat) (ls : List Leaf), leavesFs (leaves P n) fs off = some ls → (∀ f ∈ fs, f.name ≠ "_" ∧ eqOk P n f.type = true ∧ (P.info? f.type).isSome = true ∧ lenOk P n f.type = true) →
      Shp ls (xs.drop off) → Shp ls (ys.drop off) → (Op.eqFields d xs.toArray ys.toArray fs).run P w = .ok (beqL (xs.drop off) (ys.drop off)) w
  | [], off, ls, hl, _, hx, hy => by
    simp [leavesFs] at hl
    subst hl
    have h1 := hx.length
    have h2 := hy.length
    have e1 : xs.drop off = [] := List.eq_nil_of_length_eq_zero (by simpa using h1)
    have e2 : ys.drop off = [] := List.eq_nil_of_length_eq_zero (by simpa using h2)
    rw [e1, e2]
    simp [Op.eqFields, beqL]
  | f :: fs, off, ls, hl, hf, hx, hy => by
    simp only [leavesFs] at hl
    split at hl
    · rename_i ho
      simp only [Option.bind_eq_some_iff, Option.map_eq_some_iff] at hl
      obtain ⟨l, hg, l', hl', rfl⟩ := hl
      obtain ⟨hn, he, hi, hk⟩ := hf f (by simp)
      obtain ⟨l2, hg2, hc⟩ := lenOk_leaves hk
      obtain rfl : l2 = l := by rw [hg] at hg2; exact (Option.some.inj hg2).symm
      obtain ⟨x1, x2⟩ := hx.split
      obtain ⟨y1, y2⟩ := hy.split
      have hrest := eqFields_ok ih xs ys fs (off + l2.length) l' hl' (fun g hg => hf g (by simp [hg])) (by rw [← List.drop_drop]; exact x2) (by rw [← List.drop_drop]; exact y2)
      rw [hc] at x1 y1
      have p1 := run_part_ w hg hi he x1
      have p2 := run_part_ w hg hi he y1
      have p3 := ih _ _ _ _ w hg he hk x1 y1
      simp only [Op.eqFields, if_pos hn, Sem.run_bind, ho, p1, p2, p3, Result.andThen_ok]
      have e1 : beqL (xs.drop off) (ys.drop off) = (beqL ((xs.drop off).take (P.cellsOf f.type)) ((ys.drop off).take (P.cellsOf f.type)) && beqL (xs.drop (off + l2.length)) (ys.drop (off + l2.length))) := by
        rw [← List.drop_drop, ← List.drop_drop, hc, ← beqL_append (by rw [x1.length, y1.length]), List.take_append_drop, List.take_append_drop]
      rw [e1]
      cases hb : beqL ((xs.drop off).take (P.cellsOf f.type)) ((ys.drop off).take (P.cellsOf f.type))
      · simp
      · simpa using hrest
    · cases hl

theorem eqItems_ok {n d : Nat} {e : TypeId} {l : List Leaf} (ih : ∀ (as bs : List Value) (w : World), Shp l as → Shp l bs → (Op.equalIn d e (packV P e as) (packV P e bs)).run P w = .ok (beqL as bs) w)
    (hl : leaves P n e = some l) (hi : (P.info? e).isSome = true) (he : eqOk P n e = true) (hc : l.length = P.cellsOf e) (xs ys : List Value) : ∀ (k i : Nat), Shp (List.replicate k l).flatten (xs.drop (i * P.cellsOf e)) → Shp (List.replicate k l).flatten (ys.drop (i * P.cellsOf e)) →
      (Op.eqItems d e (P.cellsOf e) xs.toArray ys.toArray (List.range' i k)).run P w = .ok (beqL (xs.drop (i * P.cellsOf e)) (ys.drop (i * P.cellsOf e))) w
  | 0, i, hx, hy => by
    have h1 := hx.length
    have h2 := hy.length
    have e1 : xs.drop (i * P.cellsOf e) = [] := List.eq_nil_of_length_eq_zero (by simpa using h1)
    have e2 : ys.drop (i * P.cellsOf e) = [] := List.eq_nil_of_length_eq_zero (by simpa using h2)
    rw [e1, e2]
    simp [Op.eqItems, beqL]
  | k + 1, i, hx, hy => by
    rw [List.replicate_succ, List.flatten_cons] at hx hy
    obtain ⟨x1, x2⟩ := hx.split
    obtain ⟨y1, y2⟩ := hy.split
    rw [List.drop_drop, hc, ← Nat.succ_mul] at x2 y2
    have hrest := eqItems_ok ih hl hi he hc xs ys k (i + 1) x2 y2
    rw [hc] at x1 y1
    have p1 := run_part_ w hl hi he x1
    have p2 := run_part_ w hl hi he y1
    have p3 := ih _ _ w x1 y1
    rw [List.range'_succ]
    simp only [Op.eqItems, Sem.run_bind, p1, p2, p3, Result.andThen_ok]
    have e1 : beqL (xs.drop (i * P.cellsOf e)) (ys.drop (i * P.cellsOf e)) = (beqL ((xs.drop (i * P.cellsOf e)).take (P.cellsOf e)) ((ys.drop (i * P.cellsOf e)).take (P.cellsOf e)) && beqL (xs.drop ((i + 1) * P.cellsOf e)) (ys.drop ((i + 1) * P.cellsOf e))) := by
      rw [Nat.succ_mul, ← List.drop_drop, ← List.drop_drop, ← beqL_append (by rw [x1.length, y1.length]), List.take_append_drop, List.take_append_drop]
    rw [e1]
    cases hb : beqL ((xs.drop (i * P.cellsOf e)).take (P.cellsOf e)) ((ys.drop (i * P.cellsOf e)).take (P.cellsOf e))
    · simp
    · simpa using hrest

/-- '==' on plain data. -/
theorem equalIn_ok : ∀ (n d : Nat) (t : TypeId) (l : List Leaf) (as bs : List Value) (w : World), n ≤ d → leaves P n t = some l → eqOk P n t = true → lenOk P n t = true → Shp l as → Shp l bs → (Op.equalIn d t (packV P t as) (packV P t bs)).run P w = .ok (beqL as bs) w
  | 0, _, _, _, _, _, _, _, h, _, _, _, _ => by cases h
  | n + 1, 0, _, _, _, _, _, h, _, _, _, _, _ => by omega
  | n + 1, d + 1, t, l, as, bs, w, hd, hl, he, hk, ha, hb => by
    have hcell : ∀ c : Leaf, l = [c] → ∃ a b, as = [a] ∧ bs = [b] ∧ shpV c a ∧ shpV c b := by
      rintro c rfl
      match as, bs, ha.length, hb.length with
      | [a], [b], _, _ => exact ⟨a, b, rfl, rfl, ha.1, hb.1⟩
    have hl0 := hl
    simp only [leaves] at hl
    simp only [eqOk] at he
    simp only [lenOk, Bool.and_eq_true] at hk
    have hk := hk.2
    cases hu : P.underlying t with
    | none => simp [hu] at hl
    | some q =>
      rw [hu] at hl he hk
      cases q
      case bool =>
        simp at hl
        obtain ⟨a, b, rfl, rfl, h1, h2⟩ := hcell _ hl.symm
        cases a <;> simp [shpV] at h1
        cases b <;> simp [shpV] at h2
        simp [packV, aggB, hu, Op.equalIn, run_underlying hu, beqL, beqV]
      case int k =>
        cases k <;> (try simp at hl) <;> (
          obtain ⟨a, b, rfl, rfl, h1, h2⟩ := hcell _ hl.symm
          match a, b, h1, h2 with
          | .int k1 x, .int k2 y, h1, h2 =>
            cases k1 <;> first | exact h1.elim | skip
            all_goals (cases k2 <;> first | exact h2.elim | skip)
            all_goals simp [packV, aggB, hu, Op.equalIn, run_underlying hu, beqL, beqV])
      case string =>
        simp at hl
        obtain ⟨a, b, rfl, rfl, h1, h2⟩ := hcell _ hl.symm
        cases a <;> simp [shpV] at h1
        cases b <;> simp [shpV] at h2
        simp [packV, aggB, hu, Op.equalIn, run_underlying hu, beqL, beqV, beq_toListBytes]
      case struct fs =>
        simp only [Option.bind_eq_some_iff] at hl
        obtain ⟨l', hl', hl2⟩ := hl
        simp at hl2
        obtain ⟨hlen, rfl⟩ := hl2
        simp only [Bool.and_eq_true, Bool.not_eq_true', List.all_eq_true, bne_iff_ne] at he hk
        have hf : P.underlying t = some (.struct (P.fieldsOf t)) := by simp [Program.fieldsOf, hu]
        have hfe : P.fieldsOf t = fs := by simp [Program.fieldsOf, hu]
        simp only [packV, aggB, hu, if_true]
        rw [run_equalIn_struct w d t _ _ hf he.1, hfe]
        have := eqFields_ok (P := P) w (n := n) (d := d) (fun t l as bs w h1 h2 h5 h3 h4 => equalIn_ok n d t l as bs w (by omega) h1 h2 h5 h3 h4) as bs fs.toList 0 l' hl' (fun f hf => by
            have h1 := he.2 f hf
            exact ⟨h1.1.1, h1.1.2, h1.2, hk f hf⟩) ha hb
        simpa using this
      case array k e =>
        simp only [Option.bind_eq_some_iff] at hl
        obtain ⟨l', hl', hl2⟩ := hl
        simp at hl2
        obtain ⟨hlen, rfl⟩ := hl2
        simp at he
        obtain ⟨i, hi⟩ := Option.isSome_iff_exists.1 he.2
        simp only [packV, aggB, hu, if_true]
        rw [run_equalIn_array w d _ _ hu hi, List.range_eq_range']
        have := eqItems_ok (P := P) w (n := n) (d := d) (e := e) (l := l') (fun as bs w h3 h4 => equalIn_ok n d e l' as bs w (by omega) hl' he.1 hk h3 h4) hl' he.2 he.1 hlen.1 as bs k 0 (by simpa using ha) (by simpa using hb)
        simpa using this
      all_goals first | (simp at hl; done) | (simp at he; done)

/-- '==' and '!=' on plain data of several cells. -/
theorem run_eql_plain {n : Nat} {t : TypeId} {l : List Leaf} (hl : leaves P n t = some l) (he : eqOk P n t = true) (hk : lenOk P n t = true) (hn : n ≤ 10000) (ha : aggB P t = true) (as bs : List Value) (h1 : Shp l as) (h2 : Shp l bs) (w : World) :
    (binOp .eql t (.agg as.toArray) (.agg bs.toArray)).run P w = .ok (.bool (beqL as bs)) w := by
  have h := equalIn_ok n 10000 t l as bs w hn hl he hk h1 h2
  simp only [packV, ha, if_true] at h
  rw [run_eql_struct, h]
  rfl
theorem run_neq_plain {n : Nat} {t : TypeId} {l : List Leaf} (hl : leaves P n t = some l) (he : eqOk P n t = true) (hk : lenOk P n t = true) (hn : n ≤ 10000) (ha : aggB P t = true) (as bs : List Value) (h1 : Shp l as) (h2 : Shp l bs) (w : World) :
    (binOp .neq t (.agg as.toArray) (.agg bs.toArray)).run P w = .ok (.bool (!beqL as bs)) w := by
  have h := equalIn_ok n 10000 t l as bs w hn hl he hk h1 h2
  simp only [packV, ha, if_true] at h
  rw [run_neq_struct, h]
  rfl
theorem beqV_refl : ∀ {l : Leaf} {a : Value}, shpV l a → beqV a a = true
  | .int, .int .i64 _, _ => by simp [beqV]
  | .byte, .int .u8 _, _ => by simp [beqV]
  | .bool, .bool _, _ => by simp [beqV]
  | .str, .string _, _ => by simp [beqV]
theorem beqL_refl : ∀ {ls : List Leaf} {as : List Value}, Shp ls as → beqL as as = true
  | [], [], _ => rfl
  | _ :: _, _ :: _, h => by simp [beqL, beqV_refl h.1, beqL_refl h.2]
end
end Go.Proofs.Ytdbbmjdeeenlhaa

/- A logic of memory: what single operations answer. -/
namespace Go.Proofs.Ytdbbmjdeeenlhaa
open Go.RowKit

/-- What is asked of types. -/
def oneT (P : Program) (t : TypeId) : Option Unit :=
  match P.underlying t with
  | some (.struct _) => none
  | some (.array _ _) => none
  | some _ => match (P.info? t).map (·.size) with
    | some 1 => some ()
    | _ => none
  | none => none
def aggT (P : Program) (t : TypeId) : Option Nat :=
  match P.underlying t with
  | some (.struct _) => (P.info? t).map (·.size)
  | some (.array _ _) => (P.info? t).map (·.size)
  | _ => none
def fldT (P : Program) (t : TypeId) (j : Nat) : Option Nat :=
  match P.underlying t with
  | some (.struct fs) => match fs[j]? with
    | some f => match (P.info? f.type).map (·.size) with
      | some (_ + 1) => some f.offset
      | _ => none
    | none => none
  | _ => none
def arrT (P : Program) (t : TypeId) : Option (Nat × Nat) :=
  match P.underlying t with
  | some (.array n e) => match (P.info? e).map (·.size) with
    | some s => some (n, s)
    | none => none
  | _ => none
def aelT (P : Program) (t : TypeId) : Option Nat :=
  match P.underlying t with
  | some (.array _ e) => some e
  | _ => none
def sliT (P : Program) (t : TypeId) : Option (Nat × Nat × Nat) :=
  match P.underlying t with
  | some (.slice e) => match P.info? e with
    | some i => match i.zero with
      | some z => match i.size with
        | s + 1 => match Nat.beq z.cells.size (s + 1) with
          | true => some (e, s + 1, i.bytes)
          | false => none
        | 0 => none
      | none => none
    | none => none
  | _ => none
def bytT (P : Program) (t : TypeId) : Option Unit :=
  match P.info? t with
  | some i => match i.zero with
    | some (.int .u8 n) => match decide (n = 0) && Nat.beq i.size 1 && Nat.beq i.bytes 1 with
      | true => some ()
      | false => none
    | _ => none
  | none => none
def strT (P : Program) (t : TypeId) : Option Unit :=
  match P.underlying t with
  | some .string => some ()
  | _ => none
def kindT (P : Program) (t : TypeId) : Option IntKind :=
  match P.underlying t with
  | some (.int k) => some k
  | _ => none
/-- '==' of a type compares its cells. -/
def eqcT (P : Program) (t : TypeId) : Option (List Leaf) :=
  match leaves P 20 t with
  | some l => match eqOk P 20 t && lenOk P 20 t && aggB P t && !P.eqGuardType P.depth t with
    | true => some l
    | false => none
  | none => none
theorem eqcT_spec {P : Program} {t : TypeId} {l : List Leaf} (h : eqcT P t = some l) : leaves P 20 t = some l ∧ eqOk P 20 t = true ∧ lenOk P 20 t = true ∧ aggB P t = true ∧ P.eqGuardType P.depth t = false := by
  unfold eqcT at h
  split at h
  · rename_i l' hl
    split at h
    · rename_i hb
      obtain rfl := Option.some.inj h
      simp only [Bool.and_eq_true, Bool.not_eq_true'] at hb
      exact ⟨hl, hb.1.1.1, hb.1.1.2, hb.1.2, hb.2⟩
    · cases h
  · cases h
/-- A value as cells. -/
def liftZ : Value → AV
  | .int k n => .fv (.int k n)
  | .bool b => .fv (.bool b)
  | .string s => match Nat.ble s.size 1000 with
    | true => .fv (.str s)
    | false => .any
  | .slice none 0 0 => .nil
  | _ => .any
def zeroT (P : Program) (t : TypeId) : Option (List AV) :=
  match P.info? t with
  | some i => match i.zero with
    | some z => some (z.cells.toList.map liftZ)
    | none => none
  | none => none
theorem liftZ_rep (σ : Nat → Value) (Z : Nat → Prop) (w : World) (v : Value) : (liftZ v).Rep σ Z w v := by
  unfold liftZ
  split
  · rfl
  · rfl
  · rename_i s
    split
    · rename_i h
      have := Nat.le_of_ble_eq_true h
      exact ⟨rfl, by unfold maxLen; omega⟩
    · trivial
  · rfl
  · trivial
theorem liftZ_repL (σ : Nat → Value) (Z : Nat → Prop) (w : World) : ∀ (vs : List Value), AV.RepL σ Z w (vs.map liftZ) vs
  | [] => trivial
  | v :: vs => ⟨liftZ_rep σ Z w v, liftZ_repL σ Z w vs⟩

/-- Where the parts of a literal lie, and how long they are. -/
def plcT (P : Program) (t : TypeId) : Option (List (Nat × Nat)) :=
  match P.underlying t with
  | some (.struct fs) => fs.toList.mapM fun f => (P.info? f.type).map fun i => (f.offset, i.size)
  | some (.array n e) => match P.info? e with
    | some i => some ((List.range n).map fun k => (k * i.size, i.size))
    | none => none
  | _ => none
/-- The types of a program that its proofs ask about. -/
structure Tbl where
  one : List (Nat × Unit)
  agg : List (Nat × Nat)
  fld : List (Nat × List (Nat × Nat))
  arr : List (Nat × (Nat × Nat))
  sli : List (Nat × (Nat × Nat × Nat))
  zero : List (Nat × List AV)
  str : List (Nat × Unit)
  kind : List (Nat × IntKind)
  plc : List (Nat × List (Nat × Nat))
  eqt : List (Nat × List Leaf)
  ael : List (Nat × Nat)
  byt : List (Nat × Unit)
structure Tbl.Ok (P : Program) (T : Tbl) : Prop where
  one : T.one.map (fun p => oneT P p.1) = T.one.map (fun p => some p.2)
  agg : T.agg.map (fun p => aggT P p.1) = T.agg.map (fun p => some p.2)
  fld : T.fld.map (fun p => p.2.map fun q => fldT P p.1 q.1) = T.fld.map (fun p => p.2.map fun q => some q.2)
  arr : T.arr.map (fun p => arrT P p.1) = T.arr.map (fun p => some p.2)
  sli : T.sli.map (fun p => sliT P p.1) = T.sli.map (fun p => some p.2)
  zero : T.zero.map (fun p => zeroT P p.1) = T.zero.map (fun p => some p.2)
  str : T.str.map (fun p => strT P p.1) = T.str.map (fun p => some p.2)
  kind : T.kind.map (fun p => kindT P p.1) = T.kind.map (fun p => some p.2)
  plc : T.plc.map (fun p => plcT P p.1) = T.plc.map (fun p => some p.2)
  eqt : T.eqt.map (fun p => eqcT P p.1) = T.eqt.map (fun p => some p.2)
  ael : T.ael.map (fun p => aelT P p.1) = T.ael.map (fun p => some p.2)
  byt : T.byt.map (fun p => bytT P p.1) = T.byt.map (fun p => some p.2)

theorem lk_mem {α : Type} : ∀ {l : List (Nat × α)} {i : Nat} {x : α}, lk l i = some x → (i, x) ∈ l
  | [], _, _, h => by simp [lk] at h
  | (k, y) :: l, i, x, h => by
    rw [lk_cons] at h
    split at h
    · rename_i e; subst e; obtain rfl := Option.some.inj h; exact List.mem_cons_self
    · exact List.mem_cons_of_mem _ (lk_mem h)
theorem map_mem {α γ : Type} {f : α → γ} {g : α → γ} {l : List α} (h : l.map f = l.map g) {x : α} (hx : x ∈ l) : f x = g x := by
  induction l with
  | nil => cases hx
  | cons y l ih =>
    simp only [List.map_cons, List.cons.injEq] at h
    rcases List.mem_cons.1 hx with rfl | hx
    · exact h.1
    · exact ih h.2 hx
theorem tbl_lk {α : Type} {f : Nat → Option α} {l : List (Nat × α)} (h : l.map (fun p => f p.1) = l.map (fun p => some p.2)) {i : Nat} {x : α} (hx : lk l i = some x) : f i = some x := map_mem h (lk_mem hx)

section
variable {P : Program} {w : World} {t : TypeId}
theorem oneT_run (h : oneT P t = some ()) : (isAgg t).run P w = .ok false w := by
  unfold oneT at h
  split at h
  · cases h
  · cases h
  · rename_i d _ _ hu
    simp only [isAgg, Sem.run_bind, run_underlying hu, Result.andThen_ok]
    rfl
  · cases h
theorem oneT_size (h : oneT P t = some ()) : (sizeOf t).run P w = .ok 1 w := by
  unfold oneT at h
  split at h
  · cases h
  · cases h
  · split at h
    · rename_i hi
      cases hx : P.info? t with
      | none => rw [hx] at hi; cases hi
      | some i =>
        rw [hx] at hi
        have : i.size = 1 := by simpa using hi
        simp [sizeOf, typeInfo, hx, this]
    · cases h
  · cases h
theorem aggT_run {n : Nat} (h : aggT P t = some n) : (isAgg t).run P w = .ok true w ∧ (sizeOf t).run P w = .ok n w := by
  unfold aggT at h
  have key : ∀ d, P.underlying t = some d → (P.info? t).map (·.size) = some n → (match d with | .struct _ | .array _ _ => (pure true : Sem Bool) | _ => pure false).run P w = .ok true w → (isAgg t).run P w = .ok true w ∧ (sizeOf t).run P w = .ok n w := by
    intro d hu hi hd
    refine ⟨by simp only [isAgg, Sem.run_bind, run_underlying hu, Result.andThen_ok]; exact hd, ?_⟩
    cases hx : P.info? t with
    | none => rw [hx] at hi; cases hi
    | some i =>
      rw [hx] at hi
      obtain rfl := Option.some.inj hi
      simp [sizeOf, typeInfo, hx]
  split at h
  · rename_i fs hu
    exact key _ hu h rfl
  · rename_i k e hu
    exact key _ hu h rfl
  · cases h
theorem fldT_run {j off : Nat} (h : fldT P t j = some off) (b o : Nat) : (Instr.fieldAt t (.pointer (some ⟨b, o, none⟩)) j).run P w = .ok (.pointer (some ⟨b, o + off, none⟩)) w := by
  unfold fldT at h
  split at h
  · rename_i fs hu
    split at h
    · rename_i f hf
      split at h
      · rename_i n hn
        obtain rfl := Option.some.inj h
        cases hx : P.info? f.type with
        | none => rw [hx] at hn; cases hn
        | some i =>
          rw [hx] at hn
          have hi : i.size = n + 1 := by simpa using hn
          simp [Instr.fieldAt, run_underlying hu, hf, Instr.sureAddr, fieldPlace, sizeOf, typeInfo, hx, hi, Addr.add_lit]
      · cases h
    · cases h
  · cases h
theorem arrT_run {n s : Nat} (h : arrT P t = some (n, s)) : ∃ e, P.underlying t = some (.array n e) ∧ (sizeOf e).run P w = .ok s w := by
  unfold arrT at h
  split at h
  · rename_i k e hu
    split at h
    · rename_i s' hs
      simp only [Option.some.injEq, Prod.mk.injEq] at h
      obtain ⟨rfl, rfl⟩ := h
      refine ⟨e, hu, ?_⟩
      cases hx : P.info? e with
      | none => rw [hx] at hs; cases hs
      | some i =>
        rw [hx] at hs
        obtain rfl := Option.some.inj hs
        simp [sizeOf, typeInfo, hx]
    · cases h
  · cases h
theorem sliT_spec {e s by_ : Nat} (h : sliT P t = some (e, s, by_)) : P.underlying t = some (.slice e) ∧ 0 < s ∧ ∃ i z, P.info? e = some i ∧ i.zero = some z ∧ i.size = s ∧ i.bytes = by_ ∧ z.cells.size = s := by
  unfold sliT at h
  split at h
  · rename_i e' hu
    split at h
    · rename_i i hi
      split at h
      · rename_i z hz
        split at h
        · rename_i s' hs
          split at h
          · rename_i hb
            simp only [Option.some.injEq, Prod.mk.injEq] at h
            obtain ⟨rfl, rfl, rfl⟩ := h
            exact ⟨hu, by omega, i, z, hi, hz, hs, rfl, Nat.eq_of_beq_eq_true hb⟩
          · cases h
        · cases h
      · cases h
    · cases h
  · cases h
theorem strT_spec (h : strT P t = some ()) : P.underlying t = some .string := by
  unfold strT at h
  split at h
  · assumption
  · cases h
theorem bytT_spec (h : bytT P t = some ()) : ∃ i, P.info? t = some i ∧ i.zero = some (.int .u8 0) ∧ i.size = 1 ∧ i.bytes = 1 := by
  unfold bytT at h
  split at h
  · rename_i i hi
    split at h
    · rename_i n hz
      split at h
      · rename_i hb
        simp only [Bool.and_eq_true, decide_eq_true_eq] at hb
        obtain ⟨⟨rfl, h1⟩, h2⟩ := hb
        exact ⟨i, hi, hz, Nat.eq_of_beq_eq_true h1, Nat.eq_of_beq_eq_true h2⟩
      · cases h
    · cases h
  · cases h
theorem kindT_spec {k : IntKind} (h : kindT P t = some k) : P.underlying t = some (.int k) := by
  unfold kindT at h
  split at h
  · obtain rfl := Option.some.inj h; assumption
  · cases h
theorem zeroT_spec {cs : List AV} (h : zeroT P t = some cs) : ∃ z, (zeroValue t).run P w = .ok z w ∧ z.cells.toList.map liftZ = cs := by
  unfold zeroT at h
  split at h
  · rename_i i hi
    split at h
    · rename_i z hz
      obtain rfl := Option.some.inj h
      exact ⟨z, by simp [zeroValue, typeInfo, hi, hz], rfl⟩
    · cases h
  · cases h
/-- Cells read as a value of a type. -/
theorem run_load_one {b o : Nat} {u : Value} (h : oneT P t = some ()) (hc : w.cell? ⟨b, o, none⟩ = some u) : (Instr.loadAt t (.pointer (some ⟨b, o, none⟩))).run P w = .ok u w := by
  simp only [Instr.loadAt, Instr.sureAddr, loadVar, Sem.run_bind, Sem.run_pure, Result.andThen_ok, oneT_run h]
  simp [load, Sem.run, hc]
theorem run_load_agg {b o n : Nat} {us : List Value} (h : aggT P t = some n) (hl : us.length = n) (hc : ∀ j u, us[j]? = some u → w.cell? ⟨b, o + j, none⟩ = some u) : (Instr.loadAt t (.pointer (some ⟨b, o, none⟩))).run P w = .ok (.agg us.toArray) w := by
  obtain ⟨h1, h2⟩ := aggT_run (w := w) h
  subst hl
  have := run_loadCells_list (P := P) (w := w) ⟨b, o, none⟩ us (fun j v hj => by rw [Addr.add_lit]; exact hc j v hj)
  simp [Instr.loadAt, Instr.sureAddr, loadVar, h1, h2, this]
end

theorem wp_val {P : Program} {o : Oper} {a : Act} {w w' : World} {K : Act → World → Prop} {Q : Exit → Act → World → Prop} {v : Value} (h : (execOp a.eval o).run P w = .ok (.value v) w') (hk : K (a.put o.dst v) w') : o.wp P a w K Q := by
  unfold Oper.wp
  rw [h]
  exact hk
theorem wp_skp {P : Program} {o : Oper} {a : Act} {w w' : World} {K : Act → World → Prop} {Q : Exit → Act → World → Prop} (h : (execOp a.eval o).run P w = .ok .skip w') (hk : K (a.put o.dst undef) w') : o.wp P a w K Q := by
  unfold Oper.wp
  rw [h]
  exact hk
end Go.Proofs.Ytdbbmjdeeenlhaa

/- A logic of memory: what operations of one call answer, and that they do. -/
namespace Go.Proofs.Ytdbbmjdeeenlhaa
open Go.RowKit

/-- Two whole numbers. -/
def binI (op : BinOp) (k : IntKind) (a b : Int) : Option FV :=
  match op with
  | .add => some (.int k (k.wrap (a + b)))
  | .sub => some (.int k (k.wrap (a - b)))
  | .mul => some (.int k (k.wrap (a * b)))
  | .and => some (.int k (bits .and k a b))
  | .or => some (.int k (bits .or k a b))
  | .xor => some (.int k (bits .xor k a b))
  | .andNot => some (.int k (bits .andNot k a b))
  | .eql => some (.bool (a == b))
  | .neq => some (.bool (a != b))
  | .lss => some (.bool (decide (a < b)))
  | .leq => some (.bool (decide (a ≤ b)))
  | .gtr => some (.bool (decide (a > b)))
  | .geq => some (.bool (decide (a ≥ b)))
  | _ => none

/-- The parts of a literal, laid into its cells. -/
def fillA (place : Nat → Option (Nat × Nat)) : List AV → List (Nat × List AV) → Option (List AV)
  | cs, [] => some cs
  | cs, (i, us) :: rest => match place i with
    | some (off, size) => match Nat.beq us.length size with
      | true => match Nat.ble (off + size) cs.length with
        | true => fillA place (cs.take off ++ us ++ cs.drop (off + size)) rest
        | false => none
      | false => none
    | none => none
/-- The cells of a value. -/
def cells1 : AV → Option (List AV)
  | .agg cs => some cs
  | .fv f => some [.fv f]
  | .nil => some [.nil]
  | .fptr cs => some [.fptr cs]
  | .optr g o => some [.optr g o]
  | .osl g => some [.osl g]
  | .osb g lo n s => some [.osb g lo n s]
  | .fn f cs => some [.fn f cs]
  | _ => none
theorem cells1_rep {σ : Nat → Value} {Z : Nat → Prop} {w : World} : ∀ {a : AV} {cs : List AV} {v : Value}, cells1 a = some cs → a.Rep σ Z w v → AV.RepL σ Z w cs v.cells.toList
  | .agg cs, _, v, h, hr => by
    obtain rfl := Option.some.inj h
    obtain ⟨arr, rfl, h2⟩ := hr
    exact h2
  | .fv f, _, v, h, hr => by
    obtain rfl := Option.some.inj h
    cases f with
    | int k n => rw [show v = _ from hr]; exact ⟨rfl, trivial⟩
    | bool b => rw [show v = _ from hr]; exact ⟨rfl, trivial⟩
    | str s =>
      have : v = .string s := hr.1
      subst this
      exact ⟨hr, trivial⟩
    | sl cs n =>
      have hr' := hr
      obtain ⟨A, c, rfl, _⟩ := hr'
      exact ⟨hr, trivial⟩
  | .nil, _, v, h, hr => by
    obtain rfl := Option.some.inj h
    have : v = .slice none 0 0 := hr
    subst this
    exact ⟨rfl, trivial⟩
  | .fptr cs, _, v, h, hr => by
    obtain rfl := Option.some.inj h
    have hr' := hr
    obtain ⟨b, off, rfl, _⟩ := hr'
    exact ⟨hr, trivial⟩
  | .optr g o, _, v, h, hr => by
    obtain rfl := Option.some.inj h
    have hr' := hr
    obtain ⟨b, _, rfl⟩ := hr'
    exact ⟨hr, trivial⟩
  | .fn f cs, _, v, h, hr => by
    obtain rfl := Option.some.inj h
    have hr' := hr
    obtain ⟨b, rfl, _⟩ := hr'
    exact ⟨hr, trivial⟩
  | .any, _, _, h, _ => by cases h
  | .bit, _, _, h, _ => by cases h
  | .tup _, _, _, h, _ => by cases h
  | .whn _ _, _, _, h, _ => by cases h
  | .osb _ _ _ _, _, v, h, hr => by
    obtain rfl := Option.some.inj h
    have hr' := hr
    obtain ⟨A, c, _, _, _, rfl, _⟩ := hr'
    exact ⟨hr, trivial⟩
  | .osl _, _, v, h, hr => by
    obtain rfl := Option.some.inj h
    have hr' := hr
    obtain ⟨_, A, n, c, rfl⟩ := hr'
    exact ⟨hr, trivial⟩
def cellsL (ρ : Operand → AV) : List (Nat × Operand) → Option (List (Nat × List AV))
  | [] => some []
  | (i, x) :: l => match cells1 (ρ x) with
    | some cs => match cellsL ρ l with
      | some r => some ((i, cs) :: r)
      | none => none
    | none => none

/-- The value of a place of memory as a type has it. -/
def dropO : Nat → List AV → Option (List AV)
  | 0, cs => some cs
  | n + 1, _ :: cs => dropO n cs
  | _ + 1, [] => none
theorem dropO_eq : ∀ {n : Nat} {cs cs' : List AV}, dropO n cs = some cs' → cs' = cs.drop n
  | 0, _, _, h => (Option.some.inj h).symm
  | n + 1, _ :: cs, _, h => dropO_eq (n := n) (cs := cs) h
  | _ + 1, [], _, h => by cases h
def readB (T : Tbl) (t : Nat) (cs : List AV) : Option AV :=
  match lk T.one t with
  | some _ => match cs with
    | c :: _ => match c.one with
      | true => some c
      | false => none
    | [] => none
  | none => match lk T.agg t with
    | some n => match Nat.beq n cs.length with
      | true => some (.agg cs)
      | false => match Nat.ble n cs.length with
        | true => some (.agg (cs.take n))
        | false => none
    | none => none

def readA (T : Tbl) (t off : Nat) (cs : List AV) : Option AV :=
  match dropO off cs with
  | some cs' => readB T t cs'
  | none => none
theorem readA_eq {T : Tbl} {t off : Nat} {cs : List AV} {r : AV} (h : readA T t off cs = some r) : readB T t (cs.drop off) = some r := by
  unfold readA at h
  split at h
  · rename_i e; rwa [dropO_eq e] at h
  · cases h
/-- Plain data as values; '==' on it. -/
def plainV : List Leaf → List AV → Option (List Value)
  | [], [] => some []
  | .int :: ls, .fv (.int .i64 n) :: as => match plainV ls as with
    | some vs => some (.int .i64 n :: vs)
    | none => none
  | .byte :: ls, .fv (.int .u8 n) :: as => match plainV ls as with
    | some vs => some (.int .u8 n :: vs)
    | none => none
  | .bool :: ls, .fv (.bool b) :: as => match plainV ls as with
    | some vs => some (.bool b :: vs)
    | none => none
  | .str :: ls, .fv (.str s) :: as => match plainV ls as with
    | some vs => some (.string s :: vs)
    | none => none
  | _, _ => none
def sfx (s : ByteArray) (l h : Nat) : ByteArray := s.extract l h
def encB (u : UInt8) : List FV := [.int .u8 u.toNat]
/-- Values that are data by value. -/
def plainL : List AV → Option (List FV)
  | [] => some []
  | .fv f :: as => match plainL as with
    | some fs => some (f :: fs)
    | none => none
  | .nil :: as => match plainL as with
    | some fs => some (.sl [] 0 :: fs)
    | none => none
  | _ => none
theorem plainL_rep {σ : Nat → Value} {Z : Nat → Prop} {w : World} : ∀ {as : List AV} {fs : List FV} {vs : List Value}, plainL as = some fs → AV.RepL σ Z w as vs → AV.RepL σ Z w (fs.map .fv) vs
  | [], fs, vs, h, hr => by obtain rfl := Option.some.inj h; exact hr
  | .fv f :: as, fs, v :: vs, h, hr => by
    simp only [plainL] at h
    split at h
    · rename_i r e
      obtain rfl := Option.some.inj h
      exact ⟨hr.1, plainL_rep e hr.2⟩
    · cases h
  | .nil :: as, fs, v :: vs, h, hr => by
    simp only [plainL] at h
    split at h
    · rename_i r e
      obtain rfl := Option.some.inj h
      exact ⟨AV.Le.nil _ _ _ _ hr.1, plainL_rep e hr.2⟩
    · cases h
  | .fv _ :: _, _, [], _, hr => hr.elim
  | .nil :: _, _, [], _, hr => hr.elim
/-- A slice's type. -/
def nilT (T : Tbl) (t : Nat) : Bool := match lk T.sli t with
  | some _ => true
  | none => false
/-- How long a slice is. -/
def rowLen (H : Own) : AV → Option Nat
  | .nil => some 0
  | .fv (.sl _ n) => some n
  | .osl g => match lk H g with
    | some (.row _ _ n _) => some n
    | _ => none
  | _ => none
/-- What an operation answers that touches nothing but what it makes. -/
inductive Eff (T : Tbl) (ρ : Operand → AV) (H : Own) (d : Nat) : Op → AV → Own → Prop
  | move {x : Operand} : Eff T ρ H d (.move x) (ρ x) []
  | assign {x : Operand} : Eff T ρ H d (.assign x) (ρ x) []
  | or {c x y : Operand} {b b' : Bool} : ρ c = .fv (.bool b) → ρ x = .fv (.bool true) → ρ y = .whn (b = false) (.fv (.bool b')) → Eff T ρ H d (.pick c x y) (.fv (.bool (b || b'))) []
  | and {c x y : Operand} {b b' : Bool} : ρ c = .fv (.bool b) → ρ x = .whn (b = true) (.fv (.bool b')) → ρ y = .fv (.bool false) → Eff T ρ H d (.pick c x y) (.fv (.bool (b && b'))) []
  | bin {op : BinOp} {t u : Nat} {x y : Operand} {k : IntKind} {a b : Int} {r : FV} : ρ x = .fv (.int k a) → ρ y = .fv (.int k b) → binI op k a b = some r → Eff T ρ H d (.binOp op t x y u) (.fv r) []
  | quo {t u : Nat} {x y : Operand} {k : IntKind} {a b : Int} : ρ x = .fv (.int k a) → ρ y = .fv (.int k b) → b ≠ 0 → Eff T ρ H d (.binOp .quo t x y u) (.fv (.int k (k.wrap (a.tdiv b)))) []
  | rem {t u : Nat} {x y : Operand} {k : IntKind} {a b : Int} : ρ x = .fv (.int k a) → ρ y = .fv (.int k b) → b ≠ 0 → Eff T ρ H d (.binOp .rem t x y u) (.fv (.int k (a.tmod b))) []
  | shr {t u : Nat} {x y : Operand} {k k' : IntKind} {a b : Int} : ρ x = .fv (.int k a) → ρ y = .fv (.int k' b) → 0 ≤ b → b ≤ k.bits → Eff T ρ H d (.binOp .shr t x y u) (.fv (.int k (a / 2 ^ b.toNat))) []
  | shl {t u : Nat} {x y : Operand} {k k' : IntKind} {a b : Int} : ρ x = .fv (.int k a) → ρ y = .fv (.int k' b) → 0 ≤ b → b ≤ k.bits → Eff T ρ H d (.binOp .shl t x y u) (.fv (.int k (k.wrap (a * 2 ^ b.toNat)))) []
  | strEq {t u : Nat} {x y : Operand} {a b : ByteArray} : ρ x = .fv (.str a) → ρ y = .fv (.str b) → Eff T ρ H d (.binOp .eql t x y u) (.fv (.bool (a.toList == b.toList))) []
  | strNe {t u : Nat} {x y : Operand} {a b : ByteArray} : ρ x = .fv (.str a) → ρ y = .fv (.str b) → Eff T ρ H d (.binOp .neq t x y u) (.fv (.bool (!(a.toList == b.toList)))) []
  | not {t : Nat} {x : Operand} {b : Bool} : ρ x = .fv (.bool b) → Eff T ρ H d (.unOp .not t x) (.fv (.bool (!b))) []
  | neg {t : Nat} {x : Operand} {k : IntKind} {a : Int} : ρ x = .fv (.int k a) → Eff T ρ H d (.unOp .neg t x) (.fv (.int k (k.wrap (0 - a)))) []
  | conv {s t : Nat} {x : Operand} {k k' k'' : IntKind} {a : Int} : ρ x = .fv (.int k a) → lk T.kind t = some k' → lk T.kind s = some k'' → Eff T ρ H d (.convert s t x) (.fv (.int k' (k'.wrap a))) []
  | loadO {t : Nat} {x : Operand} {g off : Nat} {ob : OB} {r : AV} : ρ x = .optr g off → lk H g = some ob → readA T t off ob.cells = some r → Eff T ρ H d (.load t x) r []
  | loadF {t : Nat} {x : Operand} {cs : List FV} {r : AV} : ρ x = .fptr cs → readA T t 0 (cs.map .fv) = some r → Eff T ρ H d (.load t x) r []
  | fldO {t j : Nat} {x : Operand} {g off o : Nat} {fs : List (Nat × Nat)} : ρ x = .optr g off → lk T.fld t = some fs → lk fs j = some o → Eff T ρ H d (.fieldAddr t x j) (.optr g (off + o)) []
  | fldF {t j : Nat} {x : Operand} {cs : List FV} {o : Nat} {fs : List (Nat × Nat)} : ρ x = .fptr cs → lk T.fld t = some fs → lk fs j = some o → Eff T ρ H d (.fieldAddr t x j) (.fptr (cs.drop o)) []
  | idxF {t : Nat} {x y : Operand} {cs : List FV} {n e s b : Nat} {k : IntKind} {i : Int} : ρ x = .fv (.sl cs n) → ρ y = .fv (.int k i) → lk T.sli t = some (e, s, b) → 0 ≤ i → i < n → cs.length = n * s → Eff T ρ H d (.indexAddr t x y) (.fptr ((cs.drop (i.toNat * s)).take s)) []
  | idxO {t : Nat} {x y : Operand} {g : Nat} {cs : List AV} {q n e s b : Nat} {k : IntKind} {i : Int} : ρ x = .osl g → lk H g = some (.row q s n cs) → ρ y = .fv (.int k i) → lk T.sli t = some (e, s, b) → 0 ≤ i → i < n → Eff T ρ H d (.indexAddr t x y) (.optr g (i.toNat * s)) []
  | idxPO {t : Nat} {x y : Operand} {g off n s : Nat} {k : IntKind} {i : Int} : ρ x = .optr g off → ρ y = .fv (.int k i) → lk T.arr t = some (n, s) → 0 ≤ i → i < n → Eff T ρ H d (.indexAddr t x y) (.optr g (off + i.toNat * s)) []
  | idxPF {t : Nat} {x y : Operand} {cs : List FV} {n s : Nat} {k : IntKind} {i : Int} : ρ x = .fptr cs → ρ y = .fv (.int k i) → lk T.arr t = some (n, s) → 0 ≤ i → i < n → Eff T ρ H d (.indexAddr t x y) (.fptr (cs.drop (i.toNat * s))) []
  | lenF {x : Operand} {t : Nat} {cs : List FV} {n : Nat} {q : Nat × Nat × Nat} : ρ x = .fv (.sl cs n) → lk T.sli t = some q → Eff T ρ H d (.call { callee := .builtin .len, args := #[x], argTypes := #[t] }) (.fv (.int .i64 n)) []
  | lenN {x : Operand} {t : Nat} {q : Nat × Nat × Nat} : ρ x = .nil → lk T.sli t = some q → Eff T ρ H d (.call { callee := .builtin .len, args := #[x], argTypes := #[t] }) (.fv (.int .i64 0)) []
  | lenO {x : Operand} {t : Nat} {g : Nat} {e s n : Nat} {cs : List AV} {q : Nat × Nat × Nat} : ρ x = .osl g → lk H g = some (.row e s n cs) → lk T.sli t = some q → Eff T ρ H d (.call { callee := .builtin .len, args := #[x], argTypes := #[t] }) (.fv (.int .i64 n)) []
  | lenS {x : Operand} {t : Nat} {s : ByteArray} : ρ x = .fv (.str s) → lk T.str t = some () → Eff T ρ H d (.call { callee := .builtin .len, args := #[x], argTypes := #[t] }) (.fv (.int .i64 s.size)) []
  | max {x y : Operand} {ts : Array Nat} {k k' : IntKind} {a b : Int} : ρ x = .fv (.int k a) → ρ y = .fv (.int k' b) → Eff T ρ H d (.call { callee := .builtin .max, args := #[x, y], argTypes := ts }) (.fv (.int k (if b > a then b else a))) []
  | min {x y : Operand} {ts : Array Nat} {k k' : IntKind} {a b : Int} : ρ x = .fv (.int k a) → ρ y = .fv (.int k' b) → Eff T ρ H d (.call { callee := .builtin .min, args := #[x, y], argTypes := ts }) (.fv (.int k (if b < a then b else a))) []
  | extract {x : Operand} {i : Nat} {vs : List AV} {r : AV} : ρ x = .tup vs → vs[i]? = some r → Eff T ρ H d (.extract x i) r []
  | mkFn {f : FuncId} {cap : Array Operand} : Eff T ρ H d (.makeFunc (.func f) #[] cap) (.fn f (cap.toList.map ρ)) []
  | nilO {x : Operand} {g off : Nat} : ρ x = .optr g off → Eff T ρ H d (.nilCheck x) (.optr g off) []
  | nilF {x : Operand} {cs : List FV} : ρ x = .fptr cs → Eff T ρ H d (.nilCheck x) (.fptr cs) []
  | build {t : Nat} {parts : Array (Nat × Operand)} {zs cs : List AV} {pl : List (Nat × Nat)} {us : List (Nat × List AV)} : lk T.zero t = some zs → lk T.plc t = some pl → cellsL ρ parts.toList = some us → fillA (pl[·]?) zs us = some cs → Eff T ρ H d (.build t parts) (.agg cs) []
  | eqA {t u : Nat} {x y : Operand} {as bs : List AV} {l : List Leaf} {va vb : List Value} : ρ x = .agg as → ρ y = .agg bs → lk T.eqt t = some l → plainV l as = some va → plainV l bs = some vb → Eff T ρ H d (.binOp .eql t x y u) (.fv (.bool (beqL va vb))) []
  | neA {t u : Nat} {x y : Operand} {as bs : List AV} {l : List Leaf} {va vb : List Value} : ρ x = .agg as → ρ y = .agg bs → lk T.eqt t = some l → plainV l as = some va → plainV l bs = some vb → Eff T ρ H d (.binOp .neq t x y u) (.fv (.bool (!beqL va vb))) []
  | sliLH {t : Nat} {x lo hi : Operand} {cs : List FV} {n e s b : Nat} {l h : Nat} {k k' : IntKind} : ρ x = .fv (.sl cs n) → ρ lo = .fv (.int k l) → ρ hi = .fv (.int k' h) → lk T.sli t = some (e, s, b) → l ≤ h → h ≤ n → cs.length = n * s → Eff T ρ H d (.slice t x (some lo) (some hi) none) (.fv (.sl ((cs.drop (l * s)).take ((h - l) * s)) (h - l))) []
  | sliL {t : Nat} {x lo : Operand} {cs : List FV} {n e s b : Nat} {l : Nat} {k : IntKind} : ρ x = .fv (.sl cs n) → ρ lo = .fv (.int k l) → lk T.sli t = some (e, s, b) → l ≤ n → cs.length = n * s → Eff T ρ H d (.slice t x (some lo) none none) (.fv (.sl (cs.drop (l * s)) (n - l))) []
  | sliH {t : Nat} {x hi : Operand} {cs : List FV} {n e s b : Nat} {h : Nat} {k' : IntKind} : ρ x = .fv (.sl cs n) → ρ hi = .fv (.int k' h) → lk T.sli t = some (e, s, b) → h ≤ n → cs.length = n * s → Eff T ρ H d (.slice t x none (some hi) none) (.fv (.sl (cs.take (h * s)) h)) []
  | zeroS {t : Nat} {x : Operand} {lo : Option Operand} {hi mx : Operand} {a : AV} {e s b n : Nat} {k k' : IntKind} : ρ x = a → rowLen H a = some n → (∀ l, lo = some l → ∃ k, ρ l = .fv (.int k 0)) → ρ hi = .fv (.int k 0) → ρ mx = .fv (.int k' 0) → lk T.sli t = some (e, s, b) → Eff T ρ H d (.slice t x lo (some hi) (some mx)) (.osl d) [(d, .row e s 0 [])]
  | oLH {t : Nat} {x lo hi : Operand} {g q n e s b : Nat} {cs : List AV} {l h : Nat} {k k' : IntKind} : ρ x = .osl g → lk H g = some (.row q s n cs) → ρ lo = .fv (.int k l) → ρ hi = .fv (.int k' h) → lk T.sli t = some (e, s, b) → l ≤ h → h ≤ n → Eff T ρ H d (.slice t x (some lo) (some hi) none) (.osb g l (h - l) s) []
  | oL {t : Nat} {x lo : Operand} {g q n e s b : Nat} {cs : List AV} {l : Nat} {k : IntKind} : ρ x = .osl g → lk H g = some (.row q s n cs) → ρ lo = .fv (.int k l) → lk T.sli t = some (e, s, b) → l ≤ n → Eff T ρ H d (.slice t x (some lo) none none) (.osb g l (n - l) s) []
  | oH {t : Nat} {x hi : Operand} {g q n e s b : Nat} {cs : List AV} {h : Nat} {k' : IntKind} : ρ x = .osl g → lk H g = some (.row q s n cs) → ρ hi = .fv (.int k' h) → lk T.sli t = some (e, s, b) → h ≤ n → Eff T ρ H d (.slice t x none (some hi) none) (.osb g 0 h s) []
  | bLH {t : Nat} {x lo hi : Operand} {g q N l0 n e s b : Nat} {cs : List AV} {l h : Nat} {k k' : IntKind} : ρ x = .osb g l0 n s → lk H g = some (.row q s N cs) → ρ lo = .fv (.int k l) → ρ hi = .fv (.int k' h) → lk T.sli t = some (e, s, b) → l ≤ h → l0 + h ≤ N → Eff T ρ H d (.slice t x (some lo) (some hi) none) (.osb g (l0 + l) (h - l) s) []
  | idxB {t : Nat} {x y : Operand} {g l0 n e s b : Nat} {k : IntKind} {i : Int} : ρ x = .osb g l0 n s → ρ y = .fv (.int k i) → lk T.sli t = some (e, s, b) → 0 ≤ i → i < n → Eff T ρ H d (.indexAddr t x y) (.optr g (l0 * s + i.toNat * s)) []
  | lenB {x : Operand} {t : Nat} {g l0 n s : Nat} {q : Nat × Nat × Nat} : ρ x = .osb g l0 n s → lk T.sli t = some q → Eff T ρ H d (.call { callee := .builtin .len, args := #[x], argTypes := #[t] }) (.fv (.int .i64 n)) []
  | idxV {t e n s : Nat} {x y : Operand} {cs : List AV} {k : IntKind} {i : Int} {r : AV} : ρ x = .agg cs → ρ y = .fv (.int k i) → lk T.ael t = some e → lk T.one e = some () → lk T.arr t = some (n, s) → 0 ≤ i → i < n → cs[i.toNat]? = some r → Eff T ρ H d (.index t x y) r []
  | isNilF {t u e s b : Nat} {x : Operand} {cs : List FV} {n : Nat} : ρ x = .fv (.sl cs n) → 0 < n → lk T.sli t = some (e, s, b) → cs.length = n * s → Eff T ρ H d (.binOp .eql t x (.const (.slice none 0 0)) u) (.fv (.bool false)) []
  | isNilZ {t u : Nat} {x : Operand} {a : AV} : ρ x = a → rowLen H a = some 0 → nilT T t = true → Eff T ρ H d (.binOp .eql t x (.const (.slice none 0 0)) u) .bit []
  | isNilO {t u : Nat} {x : Operand} {g q s n : Nat} {cs : List AV} : ρ x = .osl g → lk H g = some (.row q s n cs) → 0 < n → nilT T t = true → Eff T ρ H d (.binOp .eql t x (.const (.slice none 0 0)) u) (.fv (.bool false)) []
  | mkS {t e s b n : Nat} {x y : Operand} {zs : List AV} {k k' : IntKind} : ρ x = .fv (.int k (n : Int)) → ρ y = .fv (.int k' (n : Int)) → lk T.sli t = some (e, s, b) → lk T.zero e = some zs → b * n ≤ 140737488355328 → n ≤ 140737488355328 → Eff T ρ H d (.makeSlice t x y) (.osl d) [(d, .row e s n ((List.replicate n zs).flatten))]
  | strH {t : Nat} {x hi : Operand} {s : ByteArray} {h : Nat} {k' : IntKind} : ρ x = .fv (.str s) → ρ hi = .fv (.int k' h) → lk T.str t = some () → h ≤ s.size → Eff T ρ H d (.slice t x none (some hi) none) (.fv (.str (sfx s 0 h))) []
  | b2s {s t : Nat} {x : Operand} {bs : List UInt8} {e q b : Nat} : ρ x = .fv (.sl (bs.flatMap encB) bs.length) → lk T.sli s = some (e, q, b) → lk T.kind e = some .u8 → lk T.str t = some () → Eff T ρ H d (.convert s t x) (.fv (.str ⟨bs.toArray⟩)) []
  | b2sN {s t : Nat} {x : Operand} {e q b : Nat} : ρ x = .nil → lk T.sli s = some (e, q, b) → lk T.kind e = some .u8 → lk T.str t = some () → Eff T ρ H d (.convert s t x) (.fv (.str ⟨#[]⟩)) []
  | bslice {t n e s b : Nat} {parts : Array (Nat × Operand)} {zs cs : List AV} {us : List (Nat × List AV)} : lk T.sli t = some (e, s, b) → lk T.zero e = some zs → cellsL ρ parts.toList = some us → fillA (fun i => some (i * s, s)) ((List.replicate n zs).flatten) us = some cs → Nat.ble (n * s) 100000 = true → Eff T ρ H d (.buildSlice t n parts) (.osl d) [(d, .row e s n cs)]
  | bsliceF {t n e s b : Nat} {parts : Array (Nat × Operand)} {zs cs : List AV} {us : List (Nat × List AV)} {fs : List FV} : lk T.sli t = some (e, s, b) → lk T.zero e = some zs → cellsL ρ parts.toList = some us → fillA (fun i => some (i * s, s)) ((List.replicate n zs).flatten) us = some cs → Nat.ble (n * s) 100000 = true → plainL cs = some fs → Eff T ρ H d (.buildSlice t n parts) (.fv (.sl fs n)) []
  | box {t : Nat} {x : Operand} {cs : List AV} : cells1 (ρ x) = some cs → Eff T ρ H d (.box t x) (.optr d 0) [(d, .box t cs)]
  | alloc {t : Nat} {cs : List AV} : lk T.zero t = some cs → Eff T ρ H d (.alloc t) (.optr d 0) [(d, .box t cs)]

theorem refs_of_rep_any : True := trivial

section
variable {P : Program} {T : Tbl} {C : Ctx} {own : Own} {σ : Nat → Value} {Z : Nat → Prop} {w : World} {a : Act} {ρ : Operand → AV} {d : Nat} {r : AV} {A : Own} {o : Oper}
  {K : Act → World → Prop} {Q : Exit → Act → World → Prop}

/-- Nothing is made: a value in the world as it is. -/
theorem snd_val {v : Value} (hE : ∀ w, (execOp a.eval o).run P w = .ok (.value v) w) (hI : Inv C own σ Z w)
    (hK : ∀ v w' σ' Z', Inv C ([] ++ own) σ' Z' w' → (∀ b, Z b → Z' b) → Keeps Z w w' → (∀ g, (∀ p ∈ ([] : Own), p.1 ≠ g) → σ' g = σ g) → r.Rep σ' Z' w' v → K (a.put o.dst v) w') (hv : r.Rep σ Z w v) : o.wp P a w K Q :=
  wp_val (hE w) (hK v w σ Z hI (fun _ h => h) (fun _ _ => rfl) (fun _ _ => rfl) hv)

theorem readB_sound {t : Nat} {cs : List AV} {us : List Value} {b off : Nat} (hT : T.Ok P) (h : readB T t cs = some r) (hr : AV.RepL σ Z w cs us) (hc : ∀ j u, us[j]? = some u → w.cell? ⟨b, off + j, none⟩ = some u) :
    ∃ v, (Instr.loadAt t (.pointer (some ⟨b, off, none⟩))).run P w = .ok v w ∧ r.Rep σ Z w v := by
  unfold readB at h
  split at h
  · rename_i u hu
    split at h
    · rename_i c cs'
      split at h
      · obtain rfl := Option.some.inj h
        cases us with
        | nil => exact hr.elim
        | cons u us => exact ⟨u, run_load_one (tbl_lk hT.one hu) (hc 0 u rfl), hr.1⟩
      · cases h
    · cases h
  · split at h
    · rename_i n hn
      split at h
      · rename_i hle
        obtain rfl := Option.some.inj h
        have hle := Nat.eq_of_beq_eq_true hle
        have hlen := hr.length
        exact ⟨.agg us.toArray, run_load_agg (tbl_lk hT.agg hn) (by omega) hc, _, rfl, by simpa using hr⟩
      split at h
      · rename_i hle
        obtain rfl := Option.some.inj h
        have hle := Nat.le_of_ble_eq_true hle
        have hlen := hr.length
        refine ⟨.agg (us.take n).toArray, run_load_agg (tbl_lk hT.agg hn) (by simp; omega) (fun j u hj => hc j u ?_), _, rfl, by simpa using hr.take n⟩
        rw [List.getElem?_take] at hj
        split at hj
        · exact hj
        · cases hj
      · cases h
    · cases h

theorem box_cells {t : Nat} {cs : List AV} {g b : Nat} (h : (OB.box t cs).Rep σ Z w (σ g)) (hb : blk (σ g) = some b) : ∃ us : List Value, AV.RepL σ Z w cs us ∧ ∀ j u, us[j]? = some u → w.cell? ⟨b, j, none⟩ = some u := by
  obtain ⟨b', arr, h1, h2, h3⟩ := h
  rw [h1] at hb
  obtain rfl : b' = b := by simpa [blk] using hb
  exact ⟨arr.toList, h3, fun j u hj => by rw [cell_of_row w b' j arr t (0, 0) h2]; simpa using hj⟩
theorem ob_cells {ob : OB} {g b : Nat} (h : ob.Rep σ Z w (σ g)) (hb : blk (σ g) = some b) : ∃ us : List Value, AV.RepL σ Z w ob.cells us ∧ ∀ j u, us[j]? = some u → w.cell? ⟨b, j, none⟩ = some u := by
  cases ob with
  | box t cs => exact box_cells h hb
  | row t size n cs =>
    obtain ⟨xs, h1, h2⟩ := h
    refine ⟨xs, h2, fun j u hj => ?_⟩
    rcases h1.2 with ⟨_, A, e⟩ | ⟨g', cap, cur, e, hc, ha, _, _, _, hx⟩
    · rw [e, blk_zero] at hb; cases hb
    · rw [e, blk_slice hc] at hb
      obtain rfl := Option.some.inj hb
      subst hx
      rw [cell_of_row w g' j cur t (0, 0) ha]
      rw [List.getElem?_take] at hj
      split at hj
      · simpa using hj
      · cases hj
end
end Go.Proofs.Ytdbbmjdeeenlhaa
