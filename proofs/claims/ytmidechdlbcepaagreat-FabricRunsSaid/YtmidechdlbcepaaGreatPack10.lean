import Derived.Test.YtmidechdlbcepaaGreatPack08
import Derived.ChangeKeysEq
set_option linter.unusedSimpArgs false
set_option linter.unusedVariables false
namespace Go.Proofs.YtmidechdlbcepaaGreat
open Go.RowKit
def beqV : Value → Value → Bool
  | .int _ a, .int _ b => a == b
  | .bool a, .bool b => a == b
  | .string a, .string b => a.toList == b.toList
  | _, _ => false
def beqL : List Value → List Value → Bool
  | [], [] => true
  | a :: as, b :: bs => beqV a b && beqL as bs
  | _, _ => false
def shpV : Leaf → Value → Prop
  | .int, .int .i64 _ => True
  | .byte, .int .u8 _ => True
  | .bool, .bool _ => True
  | .str, .string _ => True
  | _, _ => False
def Shp : List Leaf → List Value → Prop
  | [], [] => True
  | l :: ls, v :: vs => shpV l v ∧ Shp ls vs
  | _, _ => False

theorem Shp.length : ∀ {ls : List Leaf} {vs : List Value}, Shp ls vs → vs.length = ls.length
  | [], [], _ => rfl
  | _ :: _, _ :: _, h => by simp [Shp.length h.2]
theorem Shp.split : ∀ {ls ms : List Leaf} {vs : List Value}, Shp (ls ++ ms) vs → Shp ls (vs.take ls.length) ∧ Shp ms (vs.drop ls.length)
  | [], ms, vs, h => ⟨by simp [Shp], by simpa using h⟩
  | l :: ls, ms, [], h => h.elim
  | l :: ls, ms, v :: vs, h => by
    have ih := Shp.split (ls := ls) h.2
    exact ⟨⟨h.1, ih.1⟩, ih.2⟩
theorem beqL_append : ∀ {as cs : List Value} {bs ds : List Value}, as.length = bs.length → beqL (as ++ cs) (bs ++ ds) = (beqL as bs && beqL cs ds)
  | [], cs, [], ds, _ => by simp [beqL]
  | a :: as, cs, b :: bs, ds, h => by
    simp only [List.cons_append, beqL]
    rw [beqL_append (by simpa using h), Bool.and_assoc]

def aggB (P : Program) (t : TypeId) : Bool := match P.underlying t with | some (.struct _) | some (.array _ _) => true | _ => false
def packV (P : Program) (t : TypeId) (cs : List Value) : Value := if aggB P t then .agg cs.toArray else cs.headD undef

def eqOk (P : Program) : Nat → TypeId → Bool
  | 0, _ => false
  | n + 1, t =>
    match P.underlying t with
    | some (.int _) | some .bool | some .string => true
    | some (.struct fs) => !P.stoodInHeld t && fs.toList.all fun f => f.name != "_" && eqOk P n f.type && (P.info? f.type).isSome
    | some (.array _ e) => eqOk P n e && (P.info? e).isSome
    | _ => false

section
variable {P : Program} (w : World)

theorem run_part_ {t : TypeId} {n : Nat} {l : List Leaf} {xs : List Value} {off : Nat} (hl : leaves P n t = some l) (hi : (P.info? t).isSome = true) (he : eqOk P n t = true) (hs : Shp l ((xs.drop off).take (P.cellsOf t))) :
    (part t xs.toArray off).run P w = .ok (packV P t ((xs.drop off).take (P.cellsOf t))) w := by
  obtain ⟨i, hi⟩ := Option.isSome_iff_exists.1 hi
  cases n with
  | zero => cases hl
  | succ n =>
    have hone : ∀ c : Leaf, l = [c] → aggB P t = false → xs.toArray[off]? = some (packV P t ((xs.drop off).take (P.cellsOf t))) := by
      rintro c rfl ha
      have hlen := hs.length
      have hne : (xs.drop off).take (P.cellsOf t) ≠ [] := by intro e; rw [e] at hlen; simp at hlen
      obtain ⟨v, rest, hv⟩ := List.exists_cons_of_ne_nil hne
      have hd : xs.drop off ≠ [] := by intro e; rw [e] at hv; simp at hv
      obtain ⟨v', rest', hv'⟩ := List.exists_cons_of_ne_nil hd
      have e0 : v = v' := by
        rw [hv'] at hv
        cases hc : P.cellsOf t with
        | zero => rw [hc] at hv; simp at hv
        | succ k => rw [hc] at hv; simp at hv; exact hv.1.symm
      rw [hv]
      have : xs[off]? = some v' := by
        have := congrArg (fun l => l[0]?) hv'
        simpa using this
      simp [packV, ha, this, e0]
    simp only [leaves] at hl
    simp only [eqOk] at he
    cases hu : P.underlying t with
    | none => simp [hu] at hl
    | some d =>
      rw [hu] at hl he
      cases d <;> simp at he hl
      case bool => simp [part, isAgg, run_underlying hu, hone _ hl.symm (by simp [aggB, hu])]
      case int k => cases k <;> simp at hl <;> simp [part, isAgg, run_underlying hu, hone _ hl.symm (by simp [aggB, hu])]
      case string => simp [part, isAgg, run_underlying hu, hone _ hl.symm (by simp [aggB, hu])]
      case struct fs => simp [part, isAgg, run_underlying hu, run_sizeOf w hi, packV, aggB, hu, List.extract_eq_take_drop]
      case array k e => simp [part, isAgg, run_underlying hu, run_sizeOf w hi, packV, aggB, hu, List.extract_eq_take_drop]

def lenOk (P : Program) : Nat → TypeId → Bool
  | 0, _ => false
  | n + 1, t => (match leaves P (n + 1) t with | some l => decide (l.length = P.cellsOf t) | none => false) && match P.underlying t with
    | some (.struct fs) => fs.toList.all fun f => lenOk P n f.type
    | some (.array _ e) => lenOk P n e
    | _ => true

theorem lenOk_leaves {n : Nat} {t : TypeId} (h : lenOk P n t = true) : ∃ l, leaves P n t = some l ∧ l.length = P.cellsOf t := by
  cases n with
  | zero => cases h
  | succ n =>
    simp only [lenOk, Bool.and_eq_true] at h
    cases hl : leaves P (n + 1) t with
    | none => rw [hl] at h; simp at h
    | some l => rw [hl] at h; exact ⟨l, rfl, of_decide_eq_true h.1⟩

theorem eqFields_ok {n d : Nat} (ih : ∀ (t : TypeId) (l : List Leaf) (as bs : List Value) (w : World), leaves P n t = some l → eqOk P n t = true → lenOk P n t = true → Shp l as → Shp l bs → (Op.equalIn d t (packV P t as) (packV P t bs)).run P w = .ok (beqL as bs) w)
    (xs ys : List Value) : ∀ (fs : List Field) (off : Nat) (ls : List Leaf), leavesFs (leaves P n) fs off = some ls → (∀ f ∈ fs, f.name ≠ "_" ∧ eqOk P n f.type = true ∧ (P.info? f.type).isSome = true ∧ lenOk P n f.type = true) →
      Shp ls (xs.drop off) → Shp ls (ys.drop off) → (Op.eqFields d xs.toArray ys.toArray fs).run P w = .ok (beqL (xs.drop off) (ys.drop off)) w
  | [], off, ls, hl, _, hx, hy => by
    simp [leavesFs] at hl
    subst hl
    have h1 := hx.length
    have h2 := hy.length
    have e1 : xs.drop off = [] := List.eq_nil_of_length_eq_zero (by simpa using h1)
    have e2 : ys.drop off = [] := List.eq_nil_of_length_eq_zero (by simpa using h2)
    rw [e1, e2]
    simp [Op.eqFields, beqL]
  | f :: fs, off, ls, hl, hf, hx, hy => by
    simp only [leavesFs] at hl
    split at hl
    · rename_i ho
      simp only [Option.bind_eq_some_iff, Option.map_eq_some_iff] at hl
      obtain ⟨l, hg, l', hl', rfl⟩ := hl
      obtain ⟨hn, he, hi, hk⟩ := hf f (by simp)
      obtain ⟨l2, hg2, hc⟩ := lenOk_leaves hk
      obtain rfl : l2 = l := by rw [hg] at hg2; exact (Option.some.inj hg2).symm
      obtain ⟨x1, x2⟩ := hx.split
      obtain ⟨y1, y2⟩ := hy.split
      have hrest := eqFields_ok ih xs ys fs (off + l2.length) l' hl' (fun g hg => hf g (by simp [hg])) (by rw [← List.drop_drop]; exact x2) (by rw [← List.drop_drop]; exact y2)
      rw [hc] at x1 y1
      have p1 := run_part_ w hg hi he x1
      have p2 := run_part_ w hg hi he y1
      have p3 := ih _ _ _ _ w hg he hk x1 y1
      simp only [Op.eqFields, if_pos hn, Sem.run_bind, ho, p1, p2, p3, Result.andThen_ok]
      have e1 : beqL (xs.drop off) (ys.drop off) = (beqL ((xs.drop off).take (P.cellsOf f.type)) ((ys.drop off).take (P.cellsOf f.type)) && beqL (xs.drop (off + l2.length)) (ys.drop (off + l2.length))) := by
        rw [← List.drop_drop, ← List.drop_drop, hc, ← beqL_append (by rw [x1.length, y1.length]), List.take_append_drop, List.take_append_drop]
      rw [e1]
      cases hb : beqL ((xs.drop off).take (P.cellsOf f.type)) ((ys.drop off).take (P.cellsOf f.type))
      · simp
      · simpa using hrest
    · cases hl

theorem eqItems_ok {n d : Nat} {e : TypeId} {l : List Leaf} (ih : ∀ (as bs : List Value) (w : World), Shp l as → Shp l bs → (Op.equalIn d e (packV P e as) (packV P e bs)).run P w = .ok (beqL as bs) w)
    (hl : leaves P n e = some l) (hi : (P.info? e).isSome = true) (he : eqOk P n e = true) (hc : l.length = P.cellsOf e) (xs ys : List Value) : ∀ (k i : Nat), Shp (List.replicate k l).flatten (xs.drop (i * P.cellsOf e)) → Shp (List.replicate k l).flatten (ys.drop (i * P.cellsOf e)) →
      (Op.eqItems d e (P.cellsOf e) xs.toArray ys.toArray (List.range' i k)).run P w = .ok (beqL (xs.drop (i * P.cellsOf e)) (ys.drop (i * P.cellsOf e))) w
  | 0, i, hx, hy => by
    have h1 := hx.length
    have h2 := hy.length
    have e1 : xs.drop (i * P.cellsOf e) = [] := List.eq_nil_of_length_eq_zero (by simpa using h1)
    have e2 : ys.drop (i * P.cellsOf e) = [] := List.eq_nil_of_length_eq_zero (by simpa using h2)
    rw [e1, e2]
    simp [Op.eqItems, beqL]
  | k + 1, i, hx, hy => by
    rw [List.replicate_succ, List.flatten_cons] at hx hy
    obtain ⟨x1, x2⟩ := hx.split
    obtain ⟨y1, y2⟩ := hy.split
    rw [List.drop_drop, hc, ← Nat.succ_mul] at x2 y2
    have hrest := eqItems_ok ih hl hi he hc xs ys k (i + 1) x2 y2
    rw [hc] at x1 y1
    have p1 := run_part_ w hl hi he x1
    have p2 := run_part_ w hl hi he y1
    have p3 := ih _ _ w x1 y1
    rw [List.range'_succ]
    simp only [Op.eqItems, Sem.run_bind, p1, p2, p3, Result.andThen_ok]
    have e1 : beqL (xs.drop (i * P.cellsOf e)) (ys.drop (i * P.cellsOf e)) = (beqL ((xs.drop (i * P.cellsOf e)).take (P.cellsOf e)) ((ys.drop (i * P.cellsOf e)).take (P.cellsOf e)) && beqL (xs.drop ((i + 1) * P.cellsOf e)) (ys.drop ((i + 1) * P.cellsOf e))) := by
      rw [Nat.succ_mul, ← List.drop_drop, ← List.drop_drop, ← beqL_append (by rw [x1.length, y1.length]), List.take_append_drop, List.take_append_drop]
    rw [e1]
    cases hb : beqL ((xs.drop (i * P.cellsOf e)).take (P.cellsOf e)) ((ys.drop (i * P.cellsOf e)).take (P.cellsOf e))
    · simp
    · simpa using hrest

theorem equalIn_ok : ∀ (n d : Nat) (t : TypeId) (l : List Leaf) (as bs : List Value) (w : World), n ≤ d → leaves P n t = some l → eqOk P n t = true → lenOk P n t = true → Shp l as → Shp l bs → (Op.equalIn d t (packV P t as) (packV P t bs)).run P w = .ok (beqL as bs) w
  | 0, _, _, _, _, _, _, _, h, _, _, _, _ => by cases h
  | n + 1, 0, _, _, _, _, _, h, _, _, _, _, _ => by omega
  | n + 1, d + 1, t, l, as, bs, w, hd, hl, he, hk, ha, hb => by
    have hcell : ∀ c : Leaf, l = [c] → ∃ a b, as = [a] ∧ bs = [b] ∧ shpV c a ∧ shpV c b := by
      rintro c rfl
      match as, bs, ha.length, hb.length with
      | [a], [b], _, _ => exact ⟨a, b, rfl, rfl, ha.1, hb.1⟩
    have hl0 := hl
    simp only [leaves] at hl
    simp only [eqOk] at he
    simp only [lenOk, Bool.and_eq_true] at hk
    have hk := hk.2
    cases hu : P.underlying t with
    | none => simp [hu] at hl
    | some q =>
      rw [hu] at hl he hk
      cases q
      case bool =>
        simp at hl
        obtain ⟨a, b, rfl, rfl, h1, h2⟩ := hcell _ hl.symm
        cases a <;> simp [shpV] at h1
        cases b <;> simp [shpV] at h2
        simp [packV, aggB, hu, Op.equalIn, run_underlying hu, beqL, beqV]
      case int k =>
        cases k <;> (try simp at hl) <;> (
          obtain ⟨a, b, rfl, rfl, h1, h2⟩ := hcell _ hl.symm
          match a, b, h1, h2 with
          | .int k1 x, .int k2 y, h1, h2 =>
            cases k1 <;> first | exact h1.elim | skip
            all_goals (cases k2 <;> first | exact h2.elim | skip)
            all_goals simp [packV, aggB, hu, Op.equalIn, run_underlying hu, beqL, beqV])
      case string =>
        simp at hl
        obtain ⟨a, b, rfl, rfl, h1, h2⟩ := hcell _ hl.symm
        cases a <;> simp [shpV] at h1
        cases b <;> simp [shpV] at h2
        simp [packV, aggB, hu, Op.equalIn, run_underlying hu, beqL, beqV, beq_toListBytes]
      case struct fs =>
        simp only [Option.bind_eq_some_iff] at hl
        obtain ⟨l', hl', hl2⟩ := hl
        simp at hl2
        obtain ⟨hlen, rfl⟩ := hl2
        simp only [Bool.and_eq_true, Bool.not_eq_true', List.all_eq_true, bne_iff_ne] at he hk
        have hf : P.underlying t = some (.struct (P.fieldsOf t)) := by simp [Program.fieldsOf, hu]
        have hfe : P.fieldsOf t = fs := by simp [Program.fieldsOf, hu]
        simp only [packV, aggB, hu, if_true]
        rw [run_equalIn_struct w d t _ _ hf he.1, hfe]
        have := eqFields_ok (P := P) w (n := n) (d := d) (fun t l as bs w h1 h2 h5 h3 h4 => equalIn_ok n d t l as bs w (by omega) h1 h2 h5 h3 h4) as bs fs.toList 0 l' hl' (fun f hf => by
            have h1 := he.2 f hf
            exact ⟨h1.1.1, h1.1.2, h1.2, hk f hf⟩) ha hb
        simpa using this
      case array k e =>
        simp only [Option.bind_eq_some_iff] at hl
        obtain ⟨l', hl', hl2⟩ := hl
        simp at hl2
        obtain ⟨hlen, rfl⟩ := hl2
        simp at he
        obtain ⟨i, hi⟩ := Option.isSome_iff_exists.1 he.2
        simp only [packV, aggB, hu, if_true]
        rw [run_equalIn_array w d _ _ hu hi, List.range_eq_range']
        have := eqItems_ok (P := P) w (n := n) (d := d) (e := e) (l := l') (fun as bs w h3 h4 => equalIn_ok n d e l' as bs w (by omega) hl' he.1 hk h3 h4) hl' he.2 he.1 hlen.1 as bs k 0 (by simpa using ha) (by simpa using hb)
        simpa using this
      all_goals first | (simp at hl; done) | (simp at he; done)

theorem run_eql_plain {n : Nat} {t : TypeId} {l : List Leaf} (hl : leaves P n t = some l) (he : eqOk P n t = true) (hk : lenOk P n t = true) (hn : n ≤ 10000) (ha : aggB P t = true) (as bs : List Value) (h1 : Shp l as) (h2 : Shp l bs) (w : World) :
    (binOp .eql t (.agg as.toArray) (.agg bs.toArray)).run P w = .ok (.bool (beqL as bs)) w := by
  have h := equalIn_ok n 10000 t l as bs w hn hl he hk h1 h2
  simp only [packV, ha, if_true] at h
  rw [run_eql_struct, h]
  rfl
theorem run_neq_plain {n : Nat} {t : TypeId} {l : List Leaf} (hl : leaves P n t = some l) (he : eqOk P n t = true) (hk : lenOk P n t = true) (hn : n ≤ 10000) (ha : aggB P t = true) (as bs : List Value) (h1 : Shp l as) (h2 : Shp l bs) (w : World) :
    (binOp .neq t (.agg as.toArray) (.agg bs.toArray)).run P w = .ok (.bool (!beqL as bs)) w := by
  have h := equalIn_ok n 10000 t l as bs w hn hl he hk h1 h2
  simp only [packV, ha, if_true] at h
  rw [run_neq_struct, h]
  rfl
end
end Go.Proofs.YtmidechdlbcepaaGreat