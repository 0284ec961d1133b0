import Derived.Test.YtmidechdlbcepaaGreatPack16
import Derived.Laws.BytesArg
import Derived.Laws.StructEq
set_option linter.unusedSimpArgs false
set_option linter.unusedVariables false
namespace Go.Proofs.YtmidechdlbcepaaGreat
open Go.RowKit
theorem val_int {Z : Nat → Prop} {w : World} {σ : Nat → Value} {k : IntKind} {n : Int} {v : Value} (h : (AV.fv (.int k n)).Rep σ Z w v) : v = .int k n := h
theorem val_bool {Z : Nat → Prop} {w : World} {σ : Nat → Value} {b : Bool} {v : Value} (h : (AV.fv (.bool b)).Rep σ Z w v) : v = .bool b := h
theorem val_str {Z : Nat → Prop} {w : World} {σ : Nat → Value} {s : ByteArray} {v : Value} (h : (AV.fv (.str s)).Rep σ Z w v) : v = .string s := h.1
theorem run_eqGuard_int {P : Program} {w : World} (op : BinOp) (t : TypeId) (x y : Operand) (k k' : IntKind) (a b : Int) : (eqGuard op t x y (.int k a) (.int k' b)).run P w = .ok () w := by
  unfold eqGuard
  split <;> rfl
theorem run_eqGuard_str {P : Program} {w : World} (op : BinOp) (t : TypeId) (x y : Operand) (a b : ByteArray) : (eqGuard op t x y (.string a) (.string b)).run P w = .ok () w := by
  unfold eqGuard
  split <;> rfl
theorem run_eqGuard_bool {P : Program} {w : World} (op : BinOp) (t : TypeId) (x y : Operand) (a b : Bool) : (eqGuard op t x y (.bool a) (.bool b)).run P w = .ok () w := by
  unfold eqGuard
  split <;> rfl
theorem cells1_refs {d : Nat} : ∀ {a : AV} {cs : List AV}, cells1 a = some cs → a.refs d = false → AV.refsL d cs = false
  | .agg cs, _, h, hr => by obtain rfl := Option.some.inj h; exact hr
  | .fv f, _, h, hr => by obtain rfl := Option.some.inj h; rfl
  | .nil, _, h, hr => by obtain rfl := Option.some.inj h; rfl
  | .fptr cs, _, h, hr => by obtain rfl := Option.some.inj h; rfl
  | .optr g o, _, h, hr => by obtain rfl := Option.some.inj h; simpa [AV.refsL] using hr
  | .fn f cs, _, h, hr => by obtain rfl := Option.some.inj h; simpa [AV.refsL] using hr
  | .osl _, _, h, hr => by obtain rfl := Option.some.inj h; simpa [AV.refsL] using hr
  | .osb _ _ _ _, _, h, hr => by obtain rfl := Option.some.inj h; simpa [AV.refsL, AV.refs] using hr
  | .any, _, h, _ => by cases h
  | .bit, _, h, _ => by cases h
  | .tup _, _, h, _ => by cases h
  | .whn _ _, _, h, _ => by cases h
theorem liftZ_refs (g : Nat) (v : Value) : (liftZ v).refs g = false := by
  unfold liftZ
  split
  · rfl
  · rfl
  · split <;> rfl
  · rfl
  · rfl
theorem zeroT_refs {P : Program} {g t : Nat} {zs : List AV} (h : zeroT P t = some zs) : AV.refsL g zs = false := by
  unfold zeroT at h
  split at h
  · split at h
    · obtain rfl := Option.some.inj h
      rename_i z _
      induction z.cells.toList with
      | nil => rfl
      | cons v l ih => simp [AV.refsL, liftZ_refs, ih]
    · cases h
  · cases h
theorem refsL_append {g : Nat} : ∀ {as bs : List AV}, AV.refsL g as = false → AV.refsL g bs = false → AV.refsL g (as ++ bs) = false
  | [], _, _, h => h
  | a :: as, _, h, h' => by
    simp only [AV.refsL, Bool.or_eq_false_iff] at h
    simp only [List.cons_append, AV.refsL, Bool.or_eq_false_iff]
    exact ⟨h.1, refsL_append h.2 h'⟩
theorem refsL_flatten {g : Nat} {zs : List AV} (h : AV.refsL g zs = false) : ∀ (n : Nat), AV.refsL g ((List.replicate n zs).flatten) = false
  | 0 => rfl
  | n + 1 => by rw [List.replicate_succ, List.flatten_cons]; exact refsL_append h (refsL_flatten h n)
theorem refsL_take {g : Nat} : ∀ (n : Nat) {as : List AV}, AV.refsL g as = false → AV.refsL g (as.take n) = false
  | 0, _, _ => rfl
  | _ + 1, [], _ => rfl
  | n + 1, a :: as, h => by
    simp only [AV.refsL, Bool.or_eq_false_iff] at h
    simp only [List.take_succ_cons, AV.refsL, Bool.or_eq_false_iff]
    exact ⟨h.1, refsL_take n h.2⟩
theorem refsL_drop {g : Nat} : ∀ (n : Nat) {as : List AV}, AV.refsL g as = false → AV.refsL g (as.drop n) = false
  | 0, _, h => h
  | _ + 1, [], _ => rfl
  | n + 1, a :: as, h => by
    simp only [AV.refsL, Bool.or_eq_false_iff] at h
    exact refsL_drop n h.2
theorem cellsL_refs {g : Nat} {ρ : Operand → AV} : ∀ {l : List (Nat × Operand)} {us : List (Nat × List AV)}, cellsL ρ l = some us → (∀ x ∈ l.map (·.2), (ρ x).refs g = false) → ∀ p ∈ us, AV.refsL g p.2 = false
  | [], us, h, _, p, hp => by obtain rfl := Option.some.inj h; cases hp
  | (i, x) :: l, us, h, hx, p, hp => by
    simp only [cellsL] at h
    split at h
    · rename_i cs hcs
      split at h
      · rename_i r hr
        obtain rfl := Option.some.inj h
        rcases List.mem_cons.1 hp with rfl | hp
        · exact cells1_refs hcs (hx x (by simp))
        · exact cellsL_refs hr (fun y hy => hx y (by simp only [List.map_cons, List.mem_cons]; exact .inr hy)) p hp
      · cases h
    · cases h
theorem fillA_refs {g : Nat} {pA : Nat → Option (Nat × Nat)} : ∀ {us : List (Nat × List AV)} {zs cs : List AV}, AV.refsL g zs = false → (∀ p ∈ us, AV.refsL g p.2 = false) → fillA pA zs us = some cs → AV.refsL g cs = false
  | [], zs, cs, hz, _, h => by obtain rfl := Option.some.inj h; exact hz
  | (i, u) :: us, zs, cs, hz, hu, h => by
    simp only [fillA] at h
    split at h
    · split at h
      · split at h
        · exact fillA_refs (refsL_append (refsL_append (refsL_take _ hz) (hu (i, u) List.mem_cons_self)) (refsL_drop _ hz)) (fun p hp => hu p (List.mem_cons_of_mem _ hp)) h
        · cases h
      · cases h
    · cases h
theorem repL_get {σ : Nat → Value} {Z : Nat → Prop} {w : World} {ρ : Operand → AV} {a : Act} (hρ : ∀ x, (ρ x).Rep σ Z w (a.eval x)) : ∀ (l : List Operand), AV.RepL σ Z w (l.map ρ) (l.map a.eval)
  | [] => trivial
  | x :: l => ⟨hρ x, repL_get hρ l⟩

theorem fill_cells (off : Nat) : ∀ (us : List Value) (cs : List Value) (j : Nat), off + j + us.length ≤ cs.length → ((us.zipIdx j).foldl (fun (acc : Array Value) (p : Value × Nat) => acc.setIfInBounds (off + p.2) p.1) cs.toArray).toList = cs.take (off + j) ++ us ++ cs.drop (off + j + us.length)
  | [], cs, j, _ => by simp
  | u :: us, cs, j, h => by
    simp only [List.length_cons] at h
    have ih := fill_cells off us (cs.set (off + j) u) (j + 1) (by simp; omega)
    simp only [List.zipIdx_cons, List.foldl_cons]
    have e : cs.toArray.setIfInBounds (off + j) u = (cs.set (off + j) u).toArray := by simp
    rw [e, ih]
    have e1 : (cs.set (off + j) u).take (off + (j + 1)) = cs.take (off + j) ++ [u] := by
      rw [show off + (j + 1) = off + j + 1 from by omega, List.take_add_one, List.take_set_of_le (Nat.le_refl _), List.getElem?_set_self (by omega)]
      rfl
    have e2 : (cs.set (off + j) u).drop (off + (j + 1) + us.length) = cs.drop (off + j + (us.length + 1)) := by
      rw [List.drop_set_of_lt (by omega)]
      congr 1
      omega
    rw [e1, e2]
    simp
theorem fillA_sound {σ : Nat → Value} {Z : Nat → Prop} {w : World} {ρ : Operand → AV} {a : Act} (hρ : ∀ x, (ρ x).Rep σ Z w (a.eval x)) {pA pV : Nat → Option (Nat × Nat)} (hp : ∀ i q, pA i = some q → pV i = some q) :
    ∀ (parts : List (Nat × Operand)) {us : List (Nat × List AV)} {zs cs : List AV} {vs : List Value}, cellsL ρ parts = some us → fillA pA zs us = some cs → AV.RepL σ Z w zs vs → ∃ vs', Instr.fill pV vs.toArray (parts.map fun p => (p.1, a.eval p.2)) = some vs'.toArray ∧ AV.RepL σ Z w cs vs'
  | [], us, zs, cs, vs, h1, h2, hr => by
    obtain rfl := Option.some.inj h1
    obtain rfl := Option.some.inj h2
    exact ⟨vs, rfl, hr⟩
  | (i, x) :: parts, us, zs, cs, vs, h1, h2, hr => by
    simp only [cellsL] at h1
    split at h1
    · rename_i u hu
      split at h1
      · rename_i us' hus
        obtain rfl := Option.some.inj h1
        simp only [fillA] at h2
        split at h2
        · rename_i off size hpi
          split at h2
          · rename_i hb
            split at h2
            · rename_i hle
              have hb := Nat.eq_of_beq_eq_true hb
              have hle := Nat.le_of_ble_eq_true hle
              have hx := cells1_rep hu (hρ x)
              have hxl := hx.length
              have hvl := hr.length
              have hr' : AV.RepL σ Z w (zs.take off ++ u ++ zs.drop (off + size)) (vs.take off ++ (a.eval x).cells.toList ++ vs.drop (off + size)) := ((hr.take off).append hx).append (hr.drop _)
              obtain ⟨vs', h3, h4⟩ := fillA_sound hρ hp parts hus h2 hr'
              refine ⟨vs', ?_, h4⟩
              simp only [List.map_cons, Instr.fill, hp i _ hpi]
              have hs : (a.eval x).cells.size = size := by rw [← hb, ← hxl]; simp
              rw [if_neg (by simp [hs]; omega), ← h3]
              congr 1
              apply Array.ext'
              have := fill_cells off (a.eval x).cells.toList vs 0 (by simp [hs]; omega)
              simp only [Nat.add_zero, Array.length_toList, hs] at this
              rw [← this, ← Array.foldl_toList, Array.toList_zipIdx]
            · cases h2
          · cases h2
        · cases h2
      · cases h1
    · cases h1
theorem foldl_size (off : Nat) : ∀ (l : List (Value × Nat)) (cs : Array Value), (l.foldl (fun (acc : Array Value) (p : Value × Nat) => acc.setIfInBounds (off + p.2) p.1) cs).size = cs.size
  | [], _ => rfl
  | x :: l, cs => by rw [List.foldl_cons, foldl_size off l]; simp
theorem fill_size {pV : Nat → Option (Nat × Nat)} : ∀ {parts : List (Nat × Value)} {cs cs' : Array Value}, Instr.fill pV cs parts = some cs' → cs'.size = cs.size
  | [], cs, cs', h => by obtain rfl := Option.some.inj h; rfl
  | (i, v) :: parts, cs, cs', h => by
    simp only [Instr.fill] at h
    split at h
    · cases h
    · split at h
      · cases h
      · rw [fill_size h]
        rename_i off size _ _
        rw [← Array.foldl_toList]
        exact foldl_size off _ cs
theorem range_cells (z : Array Value) (n s : Nat) (h : z.size = s) : ((Array.range (n * s)).map (z[· % z.size]!)) = ((List.replicate n z.toList).flatten).toArray := by
  subst h
  apply Array.ext'
  simp only [Array.toList_map, Array.toList_range]
  induction n with
  | zero => simp
  | succ n ih =>
    rw [List.replicate_succ', List.flatten_append, ← ih, Nat.add_mul, Nat.one_mul, List.range_add, List.map_append]
    congr 1
    rw [List.map_map]
    apply List.ext_getElem
    · simp
    · intro i h1 h2
      have hi : i < z.size := by simpa using h1
      simp [Nat.mul_add_mod_self_right, Nat.mod_eq_of_lt hi, hi]
theorem cut_rep {Z : Nat → Prop} {w : World} {A : Option Addr} {cs : List FV} {n s l k c : Nat} (hc : cs = [] ∨ ∃ b off, A = some ⟨b, off, none⟩ ∧ Z b ∧ FV.RepAt Z w b off cs) (hl : l ≤ n) (hs : 0 < s) (hlen : cs.length = n * s) (hcap : n ≤ c := by omega) :
    ((cs.drop (l * s)).take k = [] ∨ ∃ b off, (if c = l then A else A.map (·.add (l * s))) = some ⟨b, off, none⟩ ∧ Z b ∧ FV.RepAt Z w b off ((cs.drop (l * s)).take k)) := by
  by_cases hcl : c = l
  · have : n = l := by omega
    subst this
    exact .inl (by rw [← hlen]; simp)
  · rcases hc with hc | ⟨b, off, rfl, hz, hcc⟩
    · exact .inl (by rw [hc]; simp)
    · refine .inr ⟨b, off + l * s, ?_, hz, (hcc.drop _).take _⟩
      rw [if_neg hcl]
      simp [Addr.add_lit]
theorem plainV_rep {σ : Nat → Value} {Z : Nat → Prop} {w : World} : ∀ {l : List Leaf} {as : List AV} {va us : List Value}, plainV l as = some va → AV.RepL σ Z w as us → us = va ∧ Shp l va
  | [], [], va, us, h, hr => by
    obtain rfl := Option.some.inj h
    cases us with
    | nil => exact ⟨rfl, trivial⟩
    | cons => exact hr.elim
  | .int :: ls, .fv (.int .i64 n) :: as, va, u :: us, h, hr => by
    simp only [plainV] at h
    split at h
    · rename_i vs hv
      obtain rfl := Option.some.inj h
      obtain ⟨e1, e2⟩ := plainV_rep hv hr.2
      exact ⟨by rw [e1, val_int hr.1], trivial, e2⟩
    · cases h
  | .byte :: ls, .fv (.int .u8 n) :: as, va, u :: us, h, hr => by
    simp only [plainV] at h
    split at h
    · rename_i vs hv
      obtain rfl := Option.some.inj h
      obtain ⟨e1, e2⟩ := plainV_rep hv hr.2
      exact ⟨by rw [e1, val_int hr.1], trivial, e2⟩
    · cases h
  | .bool :: ls, .fv (.bool n) :: as, va, u :: us, h, hr => by
    simp only [plainV] at h
    split at h
    · rename_i vs hv
      obtain rfl := Option.some.inj h
      obtain ⟨e1, e2⟩ := plainV_rep hv hr.2
      exact ⟨by rw [e1, val_bool hr.1], trivial, e2⟩
    · cases h
  | .str :: ls, .fv (.str n) :: as, va, u :: us, h, hr => by
    simp only [plainV] at h
    split at h
    · rename_i vs hv
      obtain rfl := Option.some.inj h
      obtain ⟨e1, e2⟩ := plainV_rep hv hr.2
      exact ⟨by rw [e1, val_str hr.1], trivial, e2⟩
    · cases h
  | _, _ :: _, _, [], _, hr => hr.elim
theorem bytes_rep {Z : Nat → Prop} {w : World} {b : Nat} : ∀ {bs : List UInt8} {off : Nat}, FV.RepAt Z w b off (bs.flatMap encB) → ∀ (i : Nat) (u : UInt8), bs[i]? = some u → w.cell? ⟨b, off + i, none⟩ = some (.int .u8 u.toNat)
  | [], _, _, i, u, h => by simp at h
  | c :: bs, off, h, i, u, hu => by
    obtain ⟨⟨v, h1, h2⟩, h3⟩ := h
    cases i with
    | zero =>
      obtain rfl := Option.some.inj hu
      rw [show off + 0 = off from rfl, h1]
      exact congrArg some h2
    | succ i =>
      have := bytes_rep h3 i u (by simpa using hu)
      rwa [show off + (i + 1) = off + 1 + i from by omega]

theorem run_eqGuard_slice {P : Program} {w : World} (op : BinOp) (t : TypeId) (x y : Operand) (A B : Option Addr) (n c m k : Nat) : (eqGuard op t x y (.slice A n c) (.slice B m k)).run P w = .ok () w := by
  unfold eqGuard
  split <;> rfl
theorem run_eql_nil {P : Program} {w : World} (t e : TypeId) (a : Option Addr) (l c : Nat) (h : P.underlying t = some (.slice e)) : (binOp .eql t (.slice a l c) (.slice none 0 0)).run P w = .ok (.bool a.isNone) w := by
  simp only [binOp]
  simp [run_equal_slice_nil w t e a l c h]
theorem nilT_spec {P : Program} {T : Tbl} (hT : T.Ok P) {t : Nat} (h : nilT T t = true) : ∃ e, P.underlying t = some (.slice e) := by
  unfold nilT at h
  split at h
  · rename_i q hq
    obtain ⟨e, s, b⟩ := q
    exact ⟨e, (sliT_spec (tbl_lk hT.sli hq)).1⟩
  · cases h
theorem row_slice {σ : Nat → Value} {Z : Nat → Prop} {w : World} {g q s n : Nat} {cs : List AV} {v : Value} (h : OB.Rep σ Z w (σ g) (.row q s n cs)) (hv : (AV.osl g).Rep σ Z w v) : ∃ A c A0 N cap, v = .slice A n c ∧ σ g = .slice A0 N cap ∧ 0 + c = cap ∧ n ≤ c ∧ c ≤ maxLen ∧ ((0 : Nat) = 0 → A = A0) ∧ (0 < c → ∃ b, A0 = some ⟨b, 0, none⟩ ∧ A = some ⟨b, 0 * s, none⟩) := by
  obtain ⟨hv, _⟩ := hv
  obtain ⟨xs, ho1, _⟩ := h
  rcases ho1.2 with ⟨e, A, e'⟩ | ⟨g', cap, cur, e, h0, _, e2, e3, _⟩
  · subst e
    exact ⟨A, 0, A, 0, 0, by rw [hv, e'], e', rfl, Nat.le_refl _, Nat.zero_le _, fun _ => rfl, fun h => absurd h (by omega)⟩
  · exact ⟨_, cap, _, n, cap, by rw [hv, e], e, by omega, e2, e3, fun _ => rfl, fun _ => ⟨g', rfl, by simp⟩⟩
theorem cut_slice {σ : Nat → Value} {Z : Nat → Prop} {w : World} {g s lo l m c cap N : Nat} {A A0 : Option Addr} (h2 : σ g = .slice A0 N cap) (h3 : lo + c = cap) (h5 : lo = 0 → A = A0) (h6 : 0 < c → ∃ b, A0 = some ⟨b, 0, none⟩ ∧ A = some ⟨b, lo * s, none⟩) (hl : l ≤ c) (hm : m ≤ c - l) :
    (AV.osb g (lo + l) m s).Rep σ Z w (.slice (if c = l then A else A.map (·.add (l * s))) m (c - l)) := by
  refine ⟨_, c - l, A0, N, cap, rfl, h2, by omega, hm, fun h => ?_, fun h => ?_⟩
  · have hl0 : l = 0 := by omega
    subst hl0
    rw [← h5 (by omega)]
    split
    · rfl
    · cases A <;> simp [Addr.add]
  obtain ⟨b, e1, e2⟩ := h6 (by omega)
  refine ⟨b, e1, ?_⟩
  subst e2
  rw [if_neg (by omega)]
  simp [Addr.add_lit, Nat.add_mul]
section
variable {P : Program} {T : Tbl} {C : Ctx} {own : Own} {σ : Nat → Value} {Z : Nat → Prop} {w : World} {a : Act} {ρ : Operand → AV} {d : Nat} {r : AV} {A : Own} {o : Oper}
  {K : Act → World → Prop} {Q : Exit → Act → World → Prop}

theorem Eff.sound (hT : T.Ok P) (hE : Eff T ρ own d o.op r A) (hρ : ∀ x, (ρ x).Rep σ Z w (a.eval x)) (hI : Inv C own σ Z w)
    (hA : ∀ p ∈ A, p.1 < 1000 ∧ NoH p.1 own ∧ ∀ x ∈ o.op.operands, (ρ x).refs p.1 = false)
    (hK : ∀ v w' σ' Z', Inv C (A ++ own) σ' Z' w' → (∀ b, Z b → Z' b) → Keeps Z w w' → (∀ g, (∀ p ∈ A, p.1 ≠ g) → σ' g = σ g) → r.Rep σ' Z' w' v → K (a.put o.dst v) w') : o.wp P a w K Q := by
  generalize ho : o.op = op at hE
  cases hE with
  | @move x => exact snd_val (v := a.eval x) (fun w => by simp [execOp, ho]) hI hK (hρ _)
  | @assign x => exact snd_val (v := a.eval x) (fun w => by simp [execOp, ho]) hI hK (hρ _)
  | @or c x y b b' h1 h2 h3 =>
    have e1 := val_bool (h1 ▸ hρ c)
    have e2 := val_bool (h2 ▸ hρ x)
    have e3 := hρ y
    rw [h3] at e3
    cases b with
    | true => exact snd_val (v := .bool true) (fun w => by simp [execOp, ho, e1, e2, asBool]) hI hK rfl
    | false =>
      have e4 := val_bool (e3.1 rfl)
      exact snd_val (v := .bool b') (fun w => by simp [execOp, ho, e1, e4, asBool]) hI hK rfl
  | @and c x y b b' h1 h2 h3 =>
    have e1 := val_bool (h1 ▸ hρ c)
    have e2 := val_bool (h3 ▸ hρ y)
    have e3 := hρ x
    rw [h2] at e3
    cases b with
    | false => exact snd_val (v := .bool false) (fun w => by simp [execOp, ho, e1, e2, asBool]) hI hK rfl
    | true =>
      have e4 := val_bool (e3.1 rfl)
      exact snd_val (v := .bool b') (fun w => by simp [execOp, ho, e1, e4, asBool]) hI hK rfl
  | @bin op t u x y k p q r h1 h2 h3 =>
    have e1 := val_int (h1 ▸ hρ x)
    have e2 := val_int (h2 ▸ hρ y)
    have hr : ∃ v, (∀ w, (execOp a.eval o).run P w = .ok (.value v) w) ∧ (AV.fv r).Rep σ Z w v := by
      have key : ∀ v, (∀ w, (binOp op t (.int k p) (.int k q)).run P w = .ok v w) → ∀ w, (execOp a.eval o).run P w = .ok (.value v) w := fun v hv w => by
        simp [execOp, ho, e1, e2, run_eqGuard_int, hv]
      cases op <;> simp only [binI, Option.some.injEq, reduceCtorEq] at h3 <;> subst h3 <;> refine ⟨_, key _ (fun w => ?_), rfl⟩ <;> first
        | (simp [binOp, Op.intArith]; done)
        | (simp [binOp, Op.intCmp]; done)
        | (simp only [binOp, ne_eq, not_true_eq_false, if_false, intBits_and, intBits_or, intBits_xor, intBits_andNot]; rfl)
    obtain ⟨v, hv1, hv2⟩ := hr
    exact snd_val hv1 hI hK hv2
  | @quo t u x y k p q h1 h2 h3 =>
    have e1 := val_int (h1 ▸ hρ x)
    have e2 := val_int (h2 ▸ hρ y)
    exact snd_val (v := .int k (k.wrap (p.tdiv q))) (fun w => by simp [execOp, ho, e1, e2, run_eqGuard_int, binOp, Op.intDiv, h3]) hI hK rfl
  | @rem t u x y k p q h1 h2 h3 =>
    have e1 := val_int (h1 ▸ hρ x)
    have e2 := val_int (h2 ▸ hρ y)
    exact snd_val (v := .int k (p.tmod q)) (fun w => by simp [execOp, ho, e1, e2, run_eqGuard_int, binOp, Op.intDiv, h3]) hI hK rfl
  | @shr t u x y k k' p q h1 h2 h3 h4 =>
    have e1 := val_int (h1 ▸ hρ x)
    have e2 := val_int (h2 ▸ hρ y)
    exact snd_val (v := .int k (p / 2 ^ q.toNat)) (fun w => by simp [execOp, ho, e1, e2, run_eqGuard_int, binOp, shift_shr k k' p q h3 h4]) hI hK rfl
  | @shl t u x y k k' p q h1 h2 h3 h4 =>
    have e1 := val_int (h1 ▸ hρ x)
    have e2 := val_int (h2 ▸ hρ y)
    exact snd_val (v := .int k (k.wrap (p * 2 ^ q.toNat))) (fun w => by simp [execOp, ho, e1, e2, run_eqGuard_int, binOp, shift_shl k k' p q h3 h4]) hI hK rfl
  | @strEq t u x y p q h1 h2 =>
    have e1 := val_str (h1 ▸ hρ x)
    have e2 := val_str (h2 ▸ hρ y)
    exact snd_val (v := .bool (p.toList == q.toList)) (fun w => by simp [execOp, ho, e1, e2, run_eqGuard_str, binOp, Op.stringOp]) hI hK rfl
  | @strNe t u x y p q h1 h2 =>
    have e1 := val_str (h1 ▸ hρ x)
    have e2 := val_str (h2 ▸ hρ y)
    exact snd_val (v := .bool (!(p.toList == q.toList))) (fun w => by simp [execOp, ho, e1, e2, run_eqGuard_str, binOp, Op.stringOp]) hI hK rfl
  | @bEq t u x y p q h1 h2 h3 =>
    have e1 := val_bool (h1 ▸ hρ x)
    have e2 := val_bool (h2 ▸ hρ y)
    have hu := booT_spec (tbl_lk hT.boo h3)
    exact snd_val (v := .bool (p == q)) (fun w => by simp [execOp, ho, e1, e2, run_eqGuard_bool, run_eql_bool w t p q hu]) hI hK rfl
  | @bNe t u x y p q h1 h2 h3 =>
    have e1 := val_bool (h1 ▸ hρ x)
    have e2 := val_bool (h2 ▸ hρ y)
    have hu := booT_spec (tbl_lk hT.boo h3)
    exact snd_val (v := .bool (!(p == q))) (fun w => by simp [execOp, ho, e1, e2, run_eqGuard_bool, run_neq_bool w t p q hu]) hI hK rfl
  | @not t x b h1 =>
    have e1 := val_bool (h1 ▸ hρ x)
    exact snd_val (v := .bool (!b)) (fun w => by simp [execOp, ho, e1, Op.unary]) hI hK rfl
  | @neg t x k p h1 =>
    have e1 := val_int (h1 ▸ hρ x)
    exact snd_val (v := .int k (k.wrap (0 - p))) (fun w => by simp [execOp, ho, e1, Op.unary, Op.intArith]) hI hK rfl
  | @conv s t x k k' k'' p h1 h2 h3 =>
    have e1 := val_int (h1 ▸ hρ x)
    have e2 := kindT_spec (tbl_lk hT.kind h2)
    refine snd_val (v := .int k' (k'.wrap p)) (fun w => ?_) hI hK rfl
    have hs := kindT_spec (tbl_lk hT.kind h3)
    simp [execOp, ho, e1, convert, run_underlying hs, run_underlying e2, Conv.intToInt]
  | @loadO t x g off ob r h1 h2 h3 =>
    have e1 := hρ x
    rw [h1] at e1
    obtain ⟨b, hb, hv⟩ := e1
    obtain ⟨us, hu1, hu2⟩ := ob_cells (hI.has g ob h2) hb
    obtain ⟨v, hv1, hv2⟩ := readB_sound (P := P) (b := b) (off := off) hT (readA_eq h3) (hu1.drop off) (fun j u hj => hu2 (off + j) u (by rwa [List.getElem?_drop] at hj))
    exact wp_val (v := v) (w' := w) (by simp [execOp, ho, hv, hv1]) (hK v w σ Z hI (fun _ h => h) (fun _ _ => rfl) (fun _ _ => rfl) hv2)
  | @loadF t x cs r h1 h3 =>
    have e1 := hρ x
    rw [h1] at e1
    obtain ⟨b, off, hv, hz, hc⟩ := e1
    obtain ⟨us, _, hu2, hu1⟩ := hc.toL (σ := σ)
    obtain ⟨v, hv1, hv2⟩ := readB_sound (P := P) (b := b) (off := off) hT (readA_eq h3) hu1 hu2
    exact wp_val (v := v) (w' := w) (by simp [execOp, ho, hv, hv1]) (hK v w σ Z hI (fun _ h => h) (fun _ _ => rfl) (fun _ _ => rfl) hv2)
  | @fldO t j x g off q fs h1 h2 h3 =>
    have e1 := hρ x
    rw [h1] at e1
    obtain ⟨b, hb, hv⟩ := e1
    have hf : fldT P t j = some q := by
      have := map_mem hT.fld (lk_mem h2)
      exact tbl_lk (f := fun j => fldT P t j) this h3
    exact snd_val (v := .pointer (some ⟨b, off + q, none⟩)) (fun w => by simp [execOp, ho, hv, fldT_run hf]) hI hK ⟨b, hb, rfl⟩
  | @fldF t j x cs q fs h1 h2 h3 =>
    have e1 := hρ x
    rw [h1] at e1
    obtain ⟨b, off, hv, hz, hc⟩ := e1
    have hf : fldT P t j = some q := by
      have := map_mem hT.fld (lk_mem h2)
      exact tbl_lk (f := fun j => fldT P t j) this h3
    exact snd_val (v := .pointer (some ⟨b, off + q, none⟩)) (fun w => by simp [execOp, ho, hv, fldT_run hf]) hI hK ⟨b, off + q, rfl, hz, hc.drop q⟩
  | @idxF t x y cs n e s b k i h1 h2 h3 h4 h5 h6 =>
    have e1 := hρ x
    rw [h1] at e1
    obtain ⟨A, c, hv, hn, hm, hc⟩ := e1
    have e2 := val_int (h2 ▸ hρ y)
    obtain ⟨hu, hs, i', z, hi1, _, hi3, _, _⟩ := sliT_spec (tbl_lk hT.sli h3)
    have hne : cs ≠ [] := by
      rintro rfl
      have : 0 < n * s := Nat.mul_pos (by omega) hs
      simp at h6
      omega
    obtain ⟨b', off, rfl, hz, hcc⟩ := hc.resolve_left hne
    refine snd_val (v := .pointer (some ⟨b', off + i.toNat * s, none⟩)) (fun w => ?_) hI hK ⟨b', _, rfl, hz, (hcc.drop _).take _⟩
    simp [execOp, ho, hv, e2, Instr.indexAt, asIntOf, run_underlying hu, h4, h5, sizeOf, typeInfo, hi1, hi3, Addr.add_lit]
  | @idxO t x y g cs q n e s b k i h1 h0 h2 h3 h4 h5 =>
    have e1 := hρ x
    rw [h1] at e1
    obtain ⟨hv, A, n', c, hv'⟩ := e1
    have e2 := val_int (h2 ▸ hρ y)
    obtain ⟨hu, hs, i', z, hi1, _, hi3, _, _⟩ := sliT_spec (tbl_lk hT.sli h3)
    obtain ⟨xs, ho1, ho2⟩ := hI.has g _ h0
    rcases ho1.2 with ⟨e, _⟩ | ⟨g', cap, cur, e, hc, _⟩
    · omega
    · rw [e] at hv
      refine snd_val (v := .pointer (some ⟨g', 0 + i.toNat * s, none⟩)) (fun w => ?_) hI hK ⟨g', by rw [e]; exact blk_slice hc, by rw [Nat.zero_add]⟩
      simp [execOp, ho, hv, e2, Instr.indexAt, asIntOf, run_underlying hu, h4, h5, sizeOf, typeInfo, hi1, hi3, Addr.add_lit]
  | @idxPO t x y g off n s k i h1 h2 h3 h4 h5 =>
    have e1 := hρ x
    rw [h1] at e1
    obtain ⟨b, hb, hv⟩ := e1
    have e2 := val_int (h2 ▸ hρ y)
    refine snd_val (v := .pointer (some ⟨b, off + i.toNat * s, none⟩)) (fun w => ?_) hI hK ⟨b, hb, rfl⟩
    obtain ⟨e, hu, hs⟩ := arrT_run (w := w) (tbl_lk hT.arr h3)
    simp [execOp, ho, hv, e2, Instr.indexAt, asIntOf, run_underlying hu, h4, h5, hs, Addr.add_lit, Instr.sureAddr]
  | @idxPF t x y cs n s k i h1 h2 h3 h4 h5 =>
    have e1 := hρ x
    rw [h1] at e1
    obtain ⟨b, off, hv, hz, hc⟩ := e1
    have e2 := val_int (h2 ▸ hρ y)
    refine snd_val (v := .pointer (some ⟨b, off + i.toNat * s, none⟩)) (fun w => ?_) hI hK ⟨b, _, rfl, hz, hc.drop _⟩
    obtain ⟨e, hu, hs⟩ := arrT_run (w := w) (tbl_lk hT.arr h3)
    simp [execOp, ho, hv, e2, Instr.indexAt, asIntOf, run_underlying hu, h4, h5, hs, Addr.add_lit, Instr.sureAddr]
  | @lenF x t cs n q h1 h2 =>
    have e1 := hρ x
    rw [h1] at e1
    obtain ⟨A, c, hv, hn, hm, hc⟩ := e1
    obtain ⟨hu, _⟩ := sliT_spec (tbl_lk hT.sli h2)
    exact snd_val (v := .int .i64 n) (fun w => by simp [execOp, ho, resolve, invoke, builtin, hv, Builtin.len_, run_underlying hu, goInt]) hI hK rfl
  | @lenN x t q h1 h2 =>
    have e1 : a.eval x = .slice none 0 0 := by have := hρ x; rw [h1] at this; exact this
    obtain ⟨hu, _⟩ := sliT_spec (tbl_lk hT.sli h2)
    exact snd_val (v := .int .i64 0) (fun w => by simp [execOp, ho, resolve, invoke, builtin, e1, Builtin.len_, run_underlying hu, goInt]) hI hK rfl
  | @lenO x t g e s n cs q h1 h0 h2 =>
    have e1 := hρ x
    rw [h1] at e1
    obtain ⟨hv, _⟩ := e1
    obtain ⟨hu, _⟩ := sliT_spec (tbl_lk hT.sli h2)
    obtain ⟨xs, ho1, ho2⟩ := hI.has g _ h0
    have hl : ∃ A c, a.eval x = .slice A n c := by
      rcases ho1.2 with ⟨e, A, e'⟩ | ⟨g', cap, cur, e, _⟩
      · subst e; exact ⟨A, 0, by rw [hv, e']⟩
      · exact ⟨_, _, by rw [hv, e]⟩
    obtain ⟨A, c, hl⟩ := hl
    exact snd_val (v := .int .i64 n) (fun w => by simp [execOp, ho, resolve, invoke, builtin, hl, Builtin.len_, run_underlying hu, goInt]) hI hK rfl
  | @lenS x t s h1 h2 =>
    have e1 := val_str (h1 ▸ hρ x)
    have hu := strT_spec (tbl_lk hT.str h2)
    exact snd_val (v := .int .i64 s.size) (fun w => by simp [execOp, ho, resolve, invoke, builtin, e1, Builtin.len_, run_underlying hu, goInt]) hI hK rfl
  | @max x y ts k k' p q h1 h2 =>
    have e1 := val_int (h1 ▸ hρ x)
    have e2 := val_int (h2 ▸ hρ y)
    exact snd_val (v := .int k (if q > p then q else p)) (fun w => by simp [execOp, ho, resolve, invoke, builtin, e1, e2, Builtin.max_, Builtin.max2]) hI hK rfl
  | @min x y ts k k' p q h1 h2 =>
    have e1 := val_int (h1 ▸ hρ x)
    have e2 := val_int (h2 ▸ hρ y)
    exact snd_val (v := .int k (if q < p then q else p)) (fun w => by simp [execOp, ho, resolve, invoke, builtin, e1, e2, Builtin.min_, Builtin.min2]) hI hK rfl
  | @extract x i vs r h1 h2 =>
    have e1 := hρ x
    rw [h1] at e1
    obtain ⟨arr, hv, hr⟩ := e1
    obtain ⟨v, hv1, hv2⟩ := hr.get h2
    exact snd_val (v := v) (fun w => by
      have : arr[i]? = some v := by simpa using hv1
      simp [execOp, ho, hv, Instr.extract, this]) hI hK hv2
  | @mkFn f cap => exact snd_val (v := .func (.func f) #[] (cap.map a.eval)) (fun w => by simp [execOp, ho, Instr.makeFunc]) hI hK ⟨_, rfl, by simpa using repL_get hρ cap.toList⟩
  | @nilO x g off h1 =>
    have e1 := hρ x
    rw [h1] at e1
    obtain ⟨b, hb, hv⟩ := e1
    exact snd_val (v := .pointer (some ⟨b, off, none⟩)) (fun w => by simp [execOp, ho, hv]) hI hK ⟨b, hb, rfl⟩
  | @nilF x cs h1 =>
    have e1 := hρ x
    rw [h1] at e1
    obtain ⟨b, off, hv, hz, hc⟩ := e1
    exact snd_val (v := .pointer (some ⟨b, off, none⟩)) (fun w => by simp [execOp, ho, hv]) hI hK ⟨b, off, rfl, hz, hc⟩
  | @build t parts zs cs pl us h1 h2 h3 h4 =>
    have h1' := tbl_lk hT.zero h1
    have hp := tbl_lk hT.plc h2
    have hb : ∃ cells : List Value, P.built t (parts.toList.map fun p => (p.1, a.eval p.2)) = some cells.toArray ∧ AV.RepL σ Z w cs cells := by
      unfold zeroT at h1'
      cases hit : P.info? t with
      | none => rw [hit] at h1'; cases h1'
      | some it =>
        rw [hit] at h1'
        cases hz : it.zero with
        | none => simp only [hz] at h1'; cases h1'
        | some z =>
          simp only [hz, Option.some.injEq] at h1'
          have hzr : AV.RepL σ Z w zs z.cells.toList := h1' ▸ liftZ_repL _ _ _ _
          unfold plcT at hp
          unfold Program.built
          cases hu : P.underlying t with
          | none => rw [hu] at hp; cases hp
          | some dd =>
            rw [hu] at hp
            cases dd with
            | struct fs =>
              obtain ⟨vs', e1, e2⟩ := fillA_sound hρ (pA := (pl[·]?)) (pV := (pl.toArray[·]?)) (fun i q h => by simpa using h) _ h3 h4 hzr
              refine ⟨vs', ?_, e2⟩
              have hp : fs.toList.mapM (fun f => (P.info? f.type).map fun i => (f.offset, i.size)) = some pl := hp
              simp only [hit, hz]
              rw [hp]
              exact e1
            | array k e =>
              cases hie : P.info? e with
              | none => simp only [hie] at hp; cases hp
              | some ie =>
                simp only [hie, Option.some.injEq] at hp
                obtain ⟨vs', e1, e2⟩ := fillA_sound hρ (pA := (pl[·]?)) (pV := fun i => some (i * ie.size, ie.size)) (fun i q h => by
                  rw [← hp, List.getElem?_map] at h
                  by_cases hi : i < k
                  · rw [List.getElem?_range hi] at h; exact h
                  · rw [List.getElem?_eq_none (by simp; omega)] at h; cases h) _ h3 h4 hzr
                refine ⟨vs', ?_, e2⟩
                simp only [hit, hz, hie]
                exact e1
            | _ => cases hp
    obtain ⟨cells, hb1, hb2⟩ := hb
    refine snd_val (v := .agg cells.toArray) (fun w => ?_) hI hK ⟨_, rfl, by simpa using hb2⟩
    have := run_build w t (parts.map fun (i, x) => (i, a.eval x)) cells.toArray (by simpa using hb1)
    simp [execOp, ho, this]
  | @eqA t u x y as bs l va vb h1 h2 h3 h4 h5 =>
    have e1 := hρ x
    have e2 := hρ y
    rw [h1] at e1
    rw [h2] at e2
    obtain ⟨xs, hx, hxr⟩ := e1
    obtain ⟨ys, hy, hyr⟩ := e2
    obtain ⟨p1, s1⟩ := plainV_rep h4 hxr
    obtain ⟨p2, s2⟩ := plainV_rep h5 hyr
    obtain ⟨q1, q2, q3, q4, q5⟩ := eqcT_spec (tbl_lk hT.eqt h3)
    have ex : xs = va.toArray := by rw [← p1]
    have ey : ys = vb.toArray := by rw [← p2]
    exact snd_val (v := .bool (beqL va vb)) (fun w => by simp [execOp, ho, hx, hy, run_eqGuard_agg, q5, ex, ey, run_eql_plain q1 q2 q3 (by decide) q4 va vb s1 s2 w]) hI hK rfl
  | @neA t u x y as bs l va vb h1 h2 h3 h4 h5 =>
    have e1 := hρ x
    have e2 := hρ y
    rw [h1] at e1
    rw [h2] at e2
    obtain ⟨xs, hx, hxr⟩ := e1
    obtain ⟨ys, hy, hyr⟩ := e2
    obtain ⟨p1, s1⟩ := plainV_rep h4 hxr
    obtain ⟨p2, s2⟩ := plainV_rep h5 hyr
    obtain ⟨q1, q2, q3, q4, q5⟩ := eqcT_spec (tbl_lk hT.eqt h3)
    have ex : xs = va.toArray := by rw [← p1]
    have ey : ys = vb.toArray := by rw [← p2]
    exact snd_val (v := .bool (!beqL va vb)) (fun w => by simp [execOp, ho, hx, hy, run_eqGuard_agg, q5, ex, ey, run_neq_plain q1 q2 q3 (by decide) q4 va vb s1 s2 w]) hI hK rfl
  | @sliLH t x lo hi cs n e s b l h k k' h1 h2 h3 h4 h5 h6 h7 =>
    have e1 := hρ x
    rw [h1] at e1
    obtain ⟨A, c, hv, hn, hm, hc⟩ := e1
    have e2 := val_int (h2 ▸ hρ lo)
    have e3 := val_int (h3 ▸ hρ hi)
    obtain ⟨hu, hs, i', z, hi1, _, hi3, _, _⟩ := sliT_spec (tbl_lk hT.sli h4)
    refine snd_val (v := .slice (if c = l then A else A.map (·.add (l * s))) (h - l) (c - l)) (fun w => ?_) hI hK ⟨_, _, rfl, by omega, by omega, ?_⟩
    · have q1 : (h : Int) ≤ (c : Int) := by omega
      have q2 : (l : Int) ≤ (h : Int) := by omega
      simp [execOp, ho, hv, e2, e3, Instr.sliceAt, Instr.slice, run_underlying hu, Instr.sliceBounds, run_sliceBound, q1, q2, sizeOf, typeInfo, hi1, hi3]
    · exact cut_rep hc (by omega) hs h7
  | @sliL t x lo cs n e s b l k h1 h2 h4 h5 h7 =>
    have e1 := hρ x
    rw [h1] at e1
    obtain ⟨A, c, hv, hn, hm, hc⟩ := e1
    have e2 := val_int (h2 ▸ hρ lo)
    obtain ⟨hu, hs, i', z, hi1, _, hi3, _, _⟩ := sliT_spec (tbl_lk hT.sli h4)
    refine snd_val (v := .slice (if c = l then A else A.map (·.add (l * s))) (n - l) (c - l)) (fun w => ?_) hI hK ⟨_, _, rfl, by omega, by omega, ?_⟩
    · have q2 : (l : Int) ≤ (n : Int) := by omega
      simp [execOp, ho, hv, e2, Instr.sliceAt, Instr.slice, run_underlying hu, Instr.sliceBounds, run_sliceBound, q2, sizeOf, typeInfo, hi1, hi3]
    · have := cut_rep (l := l) (k := (n - l) * s) hc (by omega) hs h7
      rwa [List.take_of_length_le (by rw [List.length_drop, h7, Nat.sub_mul]; exact Nat.le_refl _)] at this
  | @sliH t x hi cs n e s b h k' h1 h3 h4 h6 h7 =>
    have e1 := hρ x
    rw [h1] at e1
    obtain ⟨A, c, hv, hn, hm, hc⟩ := e1
    have e3 := val_int (h3 ▸ hρ hi)
    obtain ⟨hu, hs, i', z, hi1, _, hi3, _, _⟩ := sliT_spec (tbl_lk hT.sli h4)
    refine snd_val (v := .slice A h c) (fun w => ?_) hI hK ⟨_, _, rfl, by omega, by omega, ?_⟩
    · have q1 : (h : Int) ≤ (c : Int) := by omega
      have q3 : (if c = 0 then A else A.map fun x => x.add 0) = A := by
        split
        · rfl
        · cases A <;> simp [Addr.add]
      simp [execOp, ho, hv, e3, Instr.sliceAt, Instr.slice, run_underlying hu, Instr.sliceBounds, run_sliceBound, q1, sizeOf, typeInfo, hi1, q3]
    · rcases hc with hc | ⟨b', off, rfl, hz, hcc⟩
      · exact .inl (by rw [hc]; simp)
      · exact .inr ⟨b', off, rfl, hz, hcc.take _⟩
  | @zeroS t x lo hi mx av e s b n k k' h1 h2 h3 h4 h5 h6 =>
    have e1 := hρ x
    rw [h1] at e1
    obtain ⟨hlow, hH, hop⟩ := hA (d, .row e s 0 []) (by simp)
    obtain ⟨hu, hs, i', z, hi1, _, hi3, _, _⟩ := sliT_spec (tbl_lk hT.sli h6)
    have hv : ∃ A c, a.eval x = .slice A n c := by
      cases av with
      | nil =>
        obtain rfl := Option.some.inj h2
        exact ⟨none, 0, e1⟩
      | fv f =>
        cases f with
        | sl cs m =>
          obtain rfl := Option.some.inj h2
          obtain ⟨A, c, hv, _⟩ := e1
          exact ⟨A, c, hv⟩
        | _ => cases h2
      | osl g =>
        obtain ⟨hv, _⟩ := e1
        simp only [rowLen] at h2
        split at h2
        · rename_i q s' n' cs hg
          obtain rfl := Option.some.inj h2
          obtain ⟨xs, ho1, _⟩ := hI.has g _ hg
          rcases ho1.2 with ⟨e, A, e'⟩ | ⟨g', cap, cur, e, _⟩
          · subst e; exact ⟨A, 0, by rw [hv, e']⟩
          · exact ⟨_, _, by rw [hv, e]⟩
        · cases h2
      | _ => cases h2
    obtain ⟨A, c, hv⟩ := hv
    have e4 := val_int (h4 ▸ hρ hi)
    have e5 := val_int (h5 ▸ hρ mx)
    have hrun : ∃ A', ∀ w, (execOp a.eval o).run P w = .ok (.value (.slice A' 0 0)) w := by
      refine ⟨A, fun w => ?_⟩
      cases lo with
      | none => simp [execOp, ho, hv, e4, e5, Instr.sliceAt, Instr.slice, run_underlying hu, Instr.sliceBounds, run_sliceBound, sizeOf, typeInfo, hi1, hi3]
      | some l =>
        obtain ⟨kl, hl⟩ := h3 l rfl
        have e3 := val_int (hl ▸ hρ l)
        simp [execOp, ho, hv, e3, e4, e5, Instr.sliceAt, Instr.slice, run_underlying hu, Instr.sliceBounds, run_sliceBound, sizeOf, typeInfo, hi1, hi3]
    obtain ⟨A', hrun⟩ := hrun
    have hI' := hI.name (d := d) (hd := .slice A' 0 0) (ob := .row e s 0 []) blk_zero hlow ⟨[], ⟨by simp, .inl ⟨rfl, A', rfl⟩⟩, trivial⟩ hH
    refine wp_val (hrun w) ?_
    exact hK _ _ _ _ hI' (fun _ h => h) (fun _ _ => rfl) (fun g hg => upd_skip _ _ (fun e' => hg (d, .row e s 0 []) (by simp) e'.symm)) ⟨by rw [upd_hit], _, _, _, rfl⟩
  | @oLH t x lo hi g q n e s b cs l h k k' h1 h0 h2 h3 h4 h5 h6 =>
    have e1 := hρ x
    rw [h1] at e1
    obtain ⟨A, c, A0, N, cap, q1, q2, q3, q4, q5, q55, q6⟩ := row_slice (hI.has g _ h0) e1
    have e2 := val_int (h2 ▸ hρ lo)
    have e3 := val_int (h3 ▸ hρ hi)
    obtain ⟨hu, hs, i', z, hi1, _, hi3, _, _⟩ := sliT_spec (tbl_lk hT.sli h4)
    refine snd_val (v := .slice (if c = l then A else A.map (·.add (l * s))) (h - l) (c - l)) (fun w => ?_) hI hK (by have := cut_slice (Z := Z) (w := w) (g := g) (lo := 0) (l := l) (m := h - l) q2 q3 q55 q6 (by omega) (by omega); rwa [Nat.zero_add] at this)
    have p1 : (h : Int) ≤ (c : Int) := by omega
    have p2 : (l : Int) ≤ (h : Int) := by omega
    simp [execOp, ho, q1, e2, e3, Instr.sliceAt, Instr.slice, run_underlying hu, Instr.sliceBounds, run_sliceBound, p1, p2, sizeOf, typeInfo, hi1, hi3]
  | @oL t x lo g q n e s b cs l k h1 h0 h2 h4 h5 =>
    have e1 := hρ x
    rw [h1] at e1
    obtain ⟨A, c, A0, N, cap, q1, q2, q3, q4, q5, q55, q6⟩ := row_slice (hI.has g _ h0) e1
    have e2 := val_int (h2 ▸ hρ lo)
    obtain ⟨hu, hs, i', z, hi1, _, hi3, _, _⟩ := sliT_spec (tbl_lk hT.sli h4)
    refine snd_val (v := .slice (if c = l then A else A.map (·.add (l * s))) (n - l) (c - l)) (fun w => ?_) hI hK (by have := cut_slice (Z := Z) (w := w) (g := g) (lo := 0) (l := l) (m := n - l) q2 q3 q55 q6 (by omega) (by omega); rwa [Nat.zero_add] at this)
    have p2 : (l : Int) ≤ (n : Int) := by omega
    simp [execOp, ho, q1, e2, Instr.sliceAt, Instr.slice, run_underlying hu, Instr.sliceBounds, run_sliceBound, p2, sizeOf, typeInfo, hi1, hi3]
  | @oH t x hi g q n e s b cs h k' h1 h0 h3 h4 h6 =>
    have e1 := hρ x
    rw [h1] at e1
    obtain ⟨A, c, A0, N, cap, q1, q2, q3, q4, q5, q55, q6⟩ := row_slice (hI.has g _ h0) e1
    have e3 := val_int (h3 ▸ hρ hi)
    obtain ⟨hu, hs, i', z, hi1, _, hi3, _, _⟩ := sliT_spec (tbl_lk hT.sli h4)
    have hcut := cut_slice (Z := Z) (w := w) (g := g) (lo := 0) (l := 0) (m := h) q2 q3 q55 q6 (by omega) (by omega)
    refine snd_val (v := .slice (if c = 0 then A else A.map (·.add (0 * s))) (h - 0) (c - 0)) (fun w => ?_) hI hK (by simpa using hcut)
    have p1 : (h : Int) ≤ (c : Int) := by omega
    simp [execOp, ho, q1, e3, Instr.sliceAt, Instr.slice, run_underlying hu, Instr.sliceBounds, run_sliceBound, p1, sizeOf, typeInfo, hi1, hi3]
  | @bLH t x lo hi g q N l0 n e s b cs l h k k' h1 h0 h2 h3 h4 h5 h6 =>
    have e1 := hρ x
    rw [h1] at e1
    obtain ⟨A, c, A0, N', cap, q1, q2, q3, q4, q55, q6⟩ := e1
    have hN : N ≤ cap := by
      obtain ⟨xs, ho1, _⟩ := hI.has g _ h0
      rcases ho1.2 with ⟨e, A, e'⟩ | ⟨g', cap', cur, e, _, _, e2, _⟩
      · omega
      · rw [q2] at e; injection e with _ _ e3; omega
    have e2 := val_int (h2 ▸ hρ lo)
    have e3 := val_int (h3 ▸ hρ hi)
    obtain ⟨hu, hs, i', z, hi1, _, hi3, _, _⟩ := sliT_spec (tbl_lk hT.sli h4)
    refine snd_val (v := .slice (if c = l then A else A.map (·.add (l * s))) (h - l) (c - l)) (fun w => ?_) hI hK (cut_slice q2 q3 q55 q6 (by omega) (by omega))
    have p1 : (h : Int) ≤ (c : Int) := by omega
    have p2 : (l : Int) ≤ (h : Int) := by omega
    simp [execOp, ho, q1, e2, e3, Instr.sliceAt, Instr.slice, run_underlying hu, Instr.sliceBounds, run_sliceBound, p1, p2, sizeOf, typeInfo, hi1, hi3]
  | @idxB t x y g l0 n e s b k i h1 h2 h3 h4 h5 =>
    have e1 := hρ x
    rw [h1] at e1
    obtain ⟨A, c, A0, N', cap, q1, q2, q3, q4, q55, q6⟩ := e1
    have e2 := val_int (h2 ▸ hρ y)
    obtain ⟨hu, hs, i', z, hi1, _, hi3, _, _⟩ := sliT_spec (tbl_lk hT.sli h3)
    obtain ⟨b', r1, r2⟩ := q6 (by omega)
    subst r1 r2
    refine snd_val (v := .pointer (some ⟨b', l0 * s + i.toNat * s, none⟩)) (fun w => ?_) hI hK ⟨b', by rw [q2]; exact blk_slice (by omega), rfl⟩
    simp [execOp, ho, q1, e2, Instr.indexAt, asIntOf, run_underlying hu, h4, h5, sizeOf, typeInfo, hi1, hi3, Addr.add_lit]
  | @lenB x t g l0 n s q h1 h2 =>
    have e1 := hρ x
    rw [h1] at e1
    obtain ⟨A, c, A0, N', cap, q1, _⟩ := e1
    obtain ⟨hu, _⟩ := sliT_spec (tbl_lk hT.sli h2)
    exact snd_val (v := .int .i64 n) (fun w => by simp [execOp, ho, resolve, invoke, builtin, q1, Builtin.len_, run_underlying hu, goInt]) hI hK rfl
  | @idxV t e n s x y cs k i r h1 h2 h3 h4 h5 h6 h7 h8 =>
    have e1 := hρ x
    rw [h1] at e1
    obtain ⟨arr, hv, hr⟩ := e1
    have e2 := val_int (h2 ▸ hρ y)
    have hu : P.underlying t = some (.array n e) ∧ ∀ w, (Go.sizeOf e).run P w = .ok s w := by
      have q1 := tbl_lk hT.ael h3
      have q2 := tbl_lk hT.arr h5
      obtain ⟨e', q3, _⟩ := arrT_run (w := w) q2
      unfold aelT at q1
      rw [q3] at q1
      obtain rfl := Option.some.inj q1
      refine ⟨q3, fun w => ?_⟩
      obtain ⟨e'', q4, q5⟩ := arrT_run (w := w) q2
      rw [q3] at q4
      injection q4 with q4
      injection q4 with _ q4
      subst q4
      exact q5
    have h1s : s = 1 := by
      have q1 := oneT_size (w := w) (tbl_lk hT.one h4)
      have q2 := hu.2 w
      rw [q1] at q2
      injection q2 with q2
      exact q2.symm
    subst h1s
    obtain ⟨v, hv1, hv2⟩ := hr.get h8
    have hv3 : arr[i.toNat]? = some v := by simpa using hv1
    refine snd_val (v := v) (fun w => ?_) hI hK hv2
    simp [execOp, ho, hv, e2, Instr.index, asIntOf, run_underlying hu.1, h6, h7, hu.2 w, part, oneT_run (w := w) (tbl_lk hT.one h4), hv3]
  | @isNilF t u e s b x cs n h1 h3 h4 h5 =>
    have e1 := hρ x
    rw [h1] at e1
    obtain ⟨A, c, hv, hn, hm, hc⟩ := e1
    obtain ⟨hu, hs, _⟩ := sliT_spec (tbl_lk hT.sli h4)
    have ec : a.eval (.const (.slice none 0 0)) = .slice none 0 0 := rfl
    have hA' : A.isNone = false := by
      rcases hc with rfl | ⟨b, off, rfl, _⟩
      · have : 0 < n * s := Nat.mul_pos h3 hs
        simp at h5
        omega
      · rfl
    refine snd_val (v := .bool false) (fun w => ?_) hI hK rfl
    simp [execOp, ho, hv, ec, run_eqGuard_slice, run_eql_nil t e A n c hu, hA']
  | @isNilZ t u x av h1 h3 h4 =>
    have e1 := hρ x
    rw [h1] at e1
    obtain ⟨e, hu⟩ := nilT_spec hT h4
    have hv : ∃ A c, a.eval x = .slice A 0 c := by
      cases av with
      | nil => exact ⟨none, 0, e1⟩
      | fv f =>
        cases f with
        | sl cs m =>
          obtain rfl := Option.some.inj h3
          obtain ⟨A, c, hv, _⟩ := e1
          exact ⟨A, c, hv⟩
        | _ => cases h3
      | osl g =>
        obtain ⟨hv, _⟩ := e1
        simp only [rowLen] at h3
        split at h3
        · rename_i q s' n' cs hg
          obtain rfl := Option.some.inj h3
          obtain ⟨xs, ho1, _⟩ := hI.has g _ hg
          rcases ho1.2 with ⟨e, A, e'⟩ | ⟨g', cap, cur, e, _⟩
          · exact ⟨A, 0, by rw [hv, e']⟩
          · exact ⟨_, _, by rw [hv, e]⟩
        · cases h3
      | _ => cases h3
    obtain ⟨A, c, hv⟩ := hv
    refine snd_val (v := .bool A.isNone) (fun w => ?_) hI hK ⟨_, rfl⟩
    have ec : a.eval (.const (.slice none 0 0)) = .slice none 0 0 := rfl
    simp [execOp, ho, hv, ec, run_eqGuard_slice, run_eql_nil t e A 0 c hu]
  | @isNilO t u x g q s n cs h1 h0 h3 h4 =>
    have e1 := hρ x
    rw [h1] at e1
    obtain ⟨hv, _⟩ := e1
    obtain ⟨e0, hu⟩ := nilT_spec hT h4
    obtain ⟨xs, ho1, _⟩ := hI.has g _ h0
    rcases ho1.2 with ⟨e, _⟩ | ⟨g', cap, cur, e', _⟩
    · omega
    · rw [e'] at hv
      refine snd_val (v := .bool false) (fun w => ?_) hI hK rfl
      have ec : a.eval (.const (.slice none 0 0)) = .slice none 0 0 := rfl
      simp [execOp, ho, hv, ec, run_eqGuard_slice, run_eql_nil t e0 _ n cap hu]
  | @mkS t e s b n x y zs k k' h1 h2 h3 h4 h5 h6 =>
    have e1 := val_int (h1 ▸ hρ x)
    have e2 := val_int (h2 ▸ hρ y)
    obtain ⟨hu, hs, i', z, hi1, hi2, hi3, hi4, hi5⟩ := sliT_spec (tbl_lk hT.sli h3)
    have h4' := tbl_lk hT.zero h4
    obtain ⟨hlow, hH, hop⟩ := hA (d, .row e s n ((List.replicate n zs).flatten)) (List.mem_singleton.2 rfl)
    have hzr : AV.RepL σ Z w zs z.cells.toList := by
      unfold zeroT at h4'
      simp only [hi1, hi2, Option.some.injEq] at h4'
      exact h4' ▸ liftZ_repL _ _ _ _
    have hz0 : ∀ k, AV.RepL σ Z w ((List.replicate k zs).flatten) ((List.replicate k z.cells.toList).flatten) := fun k => by
      induction k with
      | zero => trivial
      | succ k ih => simpa [List.replicate_succ] using hzr.append ih
    have hb : b * n ≤ 281474976710656 := by omega
    have hrun := run_make (P := P) w t e i' z hu hi1 hi2 k k' (n : Int) (n : Int) (by omega) (by omega) (by rw [hi4, ← Int.natCast_mul]; omega) (by omega)
    rw [Int.toNat_natCast, hi3] at hrun
    have hcells : (madeCells z.cells (n * s)).toList = (List.replicate n z.cells.toList).flatten := by
      unfold madeCells
      rw [range_cells z.cells n s hi5]
    have hlen : (madeCells z.cells (n * s)).toList.length = n * s := by rw [Array.length_toList, size_madeCells]
    have hrefs : AV.refsL d ((List.replicate n zs).flatten) = false := refsL_flatten (zeroT_refs h4') n
    have hown : (w.alloc (.cells (madeCells z.cells (n * s)) e)).ownsRow 0 e s (.slice (some ⟨w.heap.size, 0, none⟩) n n) n (madeCells z.cells (n * s)).toList :=
      ⟨hlen, .inr ⟨w.heap.size, n, _, rfl, Nat.zero_le _, heap_alloc_new w _, Nat.le_refl _, by unfold maxLen; omega, size_madeCells _ _, List.take_of_length_le (by rw [hlen]; exact Nat.le_refl _)⟩⟩
    have hrep : (OB.row e s n ((List.replicate n zs).flatten)).Rep (upd σ d (.slice (some ⟨w.heap.size, 0, none⟩) n n)) Z (w.alloc (.cells (madeCells z.cells (n * s)) e)) (.slice (some ⟨w.heap.size, 0, none⟩) n n) :=
      ⟨_, rowZ_of hown, AV.RepL.mono (alloc_keeps w _ hI.zlt) (fun _ h => h) (refsL_upd _ hrefs) (hcells ▸ hz0 n)⟩
    have hex : (execOp a.eval o).run P w = .ok (.value (.slice (some ⟨w.heap.size, 0, none⟩) n n)) (w.alloc (.cells (madeCells z.cells (n * s)) e)) := by
      simp [execOp, ho, e1, e2, hrun]
    rcases Nat.eq_zero_or_pos n with h0 | h0
    · subst h0
      have hI' := hI.zero (d := d) (o := .cells (madeCells z.cells (0 * s)) e) blk_zero hlow hrep hH
      refine wp_val hex ?_
      exact hK _ _ _ _ hI' (fun _ h => h) (alloc_keeps w _ hI.zlt) (fun g hg => upd_skip _ _ (fun e' => hg (d, .row e s 0 ((List.replicate 0 zs).flatten)) (List.mem_singleton.2 rfl) e'.symm)) ⟨by rw [upd_hit], _, _, _, rfl⟩
    have hI' := hI.alloc (d := d) (o := .cells (madeCells z.cells (n * s)) e) (blk_slice h0) hlow hrep hH
    refine wp_val hex ?_
    exact hK _ _ _ _ hI' (fun _ h => h) (alloc_keeps w _ hI.zlt) (fun g hg => upd_skip _ _ (fun e' => hg (d, .row e s n ((List.replicate n zs).flatten)) (List.mem_singleton.2 rfl) e'.symm)) ⟨by rw [upd_hit], _, _, _, rfl⟩
  | @strH t x hi s h k' h1 h2 h3 h4 =>
    have e1 := hρ x
    rw [h1] at e1
    have e2 := val_int (h2 ▸ hρ hi)
    have hu := strT_spec (tbl_lk hT.str h3)
    refine snd_val (v := .string (s.extract 0 h)) (fun w => ?_) hI hK ⟨rfl, ?_⟩
    · have hh : (h : Int) ≤ (s.size : Int) := by omega
      simp [execOp, ho, e1.1, e2, Instr.sliceAt, Instr.slice, run_underlying hu, Instr.sliceBounds, run_sliceBound, hh]
    · have := e1.2
      simp [sfx]
      omega
  | @b2s s t x bs e q b h1 h2 h3 h4 =>
    have e1 := hρ x
    rw [h1] at e1
    obtain ⟨A, c, hv, hn, hm, hc⟩ := e1
    obtain ⟨hu, _⟩ := sliT_spec (tbl_lk hT.sli h2)
    have hk := kindT_spec (tbl_lk hT.kind h3)
    have hst := strT_spec (tbl_lk hT.str h4)
    have hrun : (convert s t (a.eval x)).run P w = .ok (.string ⟨bs.toArray⟩) w := by
      rw [hv]
      rcases hc with hc | ⟨b', off, rfl, hz, hcc⟩
      · have hb : bs = [] := by
          cases bs with
          | nil => rfl
          | cons u bs => simp [encB] at hc
        subst hb
        cases A with
        | none =>
          rw [run_convert_bytes_nil w s e hu hk _ c t hst]
          rfl
        | some ad =>
          obtain ⟨b0, o0, sp⟩ := ad
          rw [run_convert_bytes_string w s t e _ _ c hu hk hst, run_bytesToString w _ _ c [] (by rfl)]
          rfl
      · have := run_convert_bytes_arg w s e hu hk b' off bs.length c (bs.map fun u => (u.toNat : Int)) (by simp) (fun i hi => by
          have := bytes_rep hcc i bs[i] (List.getElem?_eq_getElem hi)
          rw [this]
          simp [List.getD, hi]) t hst
        rw [this]
        congr 2
        unfold strOfNums
        rw [List.map_map]
        congr 2
        conv => rhs; rw [← List.map_id bs]
        apply List.map_congr_left
        intro u _
        simp
    exact wp_val (v := .string ⟨bs.toArray⟩) (w' := w) (by simp [execOp, ho, hrun]) (hK _ w σ Z hI (fun _ h => h) (fun _ _ => rfl) (fun _ _ => rfl) ⟨rfl, by simp [ByteArray.size]; omega⟩)
  | @b2sN s t x e q b h1 h2 h3 h4 =>
    have e1 : a.eval x = .slice none 0 0 := by have := hρ x; rw [h1] at this; exact this
    obtain ⟨hu, _⟩ := sliT_spec (tbl_lk hT.sli h2)
    have hk := kindT_spec (tbl_lk hT.kind h3)
    have hst := strT_spec (tbl_lk hT.str h4)
    refine snd_val (v := .string ⟨#[]⟩) (fun w' => ?_) hI hK ⟨rfl, Nat.zero_le _⟩
    simp [execOp, ho, e1, run_convert_bytes_nil w' s e hu hk 0 0 t hst, ByteArray.empty, ByteArray.emptyWithCapacity]
    rfl
  | @bsliceF t n e s b parts zs cs us fs h1 h2 h3 h4 h5 h6 =>
    obtain ⟨hu, hs, i', z, hi1, hi2, hi3, _, hi5⟩ := sliT_spec (tbl_lk hT.sli h1)
    have h2' := tbl_lk hT.zero h2
    have h5 := Nat.le_of_ble_eq_true h5
    have hzr : AV.RepL σ Z w zs z.cells.toList := by
      unfold zeroT at h2'
      simp only [hi1, hi2, Option.some.injEq] at h2'
      exact h2' ▸ liftZ_repL _ _ _ _
    have hz0 : ∀ k, AV.RepL σ Z w ((List.replicate k zs).flatten) ((List.replicate k z.cells.toList).flatten) := fun k => by
      induction k with
      | zero => trivial
      | succ k ih => simpa [List.replicate_succ] using hzr.append ih
    obtain ⟨vs, hf1, hf2⟩ := fillA_sound hρ (pA := fun i => some (i * s, s)) (pV := fun i => some (i * s, s)) (fun _ _ h => h) _ h3 h4 (hz0 n)
    have hlen : vs.length = n * s := by
      have e1 := fill_size hf1
      simp at e1
      rw [e1, ← hi5]
    have hcells : ((Array.range (n * s)).map (z.cells[· % z.cells.size]!)) = ((List.replicate n z.cells.toList).flatten).toArray := range_cells z.cells n s hi5
    have hrun : (execOp a.eval o).run P w = .ok (.value (.slice (some ⟨w.heap.size, 0, none⟩) n n)) (w.alloc (.cells vs.toArray e)) := by
      have hbig : ¬ (n * s > 2 ^ 24) := by omega
      have hf' : Instr.fill (fun i => some (i * s, s)) ((List.replicate n z.cells.toList).flatten).toArray (parts.toList.map fun x => (x.1, a.eval x.2)) = some vs.toArray := hf1
      by_cases hn : n * s = 0
      · have hn0 : n = 0 := by rcases Nat.mul_eq_zero.1 hn with h | h; exact h; omega
        subst hn0
        have hf'' : Instr.fill (fun i => some (i * s, s)) (Array.map (fun _ => default) (Array.range 0)) (parts.toList.map fun x => (x.1, a.eval x.2)) = some vs.toArray := by
          have e0 : Array.map (fun _ : Nat => (default : Value)) (Array.range 0) = #[] := by simp
          rw [e0]
          simpa using hf'
        simp [execOp, ho, Instr.buildSlice, run_underlying hu, sizeOf, typeInfo, hi1, hi3, hf'', newRow]
      · simp [execOp, ho, Instr.buildSlice, run_underlying hu, sizeOf, typeInfo, hi1, hi3, hi2, hbig, hn, zeroValue, hcells, hf', newRow]
    have hI' := hI.allocZ (.cells vs.toArray e)
    have hn24 : n ≤ maxLen := by
      have : n ≤ n * s := Nat.le_mul_of_pos_right n hs
      unfold maxLen
      omega
    refine wp_val hrun ?_
    refine hK _ _ σ _ hI' (fun _ h => .inl h) (alloc_keeps w _ hI.zlt) (fun _ _ => rfl) ⟨_, n, rfl, Nat.le_refl _, hn24, .inr ⟨w.heap.size, 0, rfl, .inr rfl, ?_⟩⟩
    refine FV.RepAt.ofL (σ := σ) (AV.RepL.mono (alloc_keeps w _ hI.zlt) (fun _ h => .inl h) (fun _ _ => rfl) (plainL_rep h6 hf2)) (fun j u hj => ?_)
    rw [Nat.zero_add, cell_of_row _ w.heap.size j vs.toArray e (0, 0) (heap_alloc_new w _)]
    simpa using hj
  | @bslice t n e s b parts zs cs us h1 h2 h3 h4 h5 =>
    obtain ⟨hu, hs, i', z, hi1, hi2, hi3, _, hi5⟩ := sliT_spec (tbl_lk hT.sli h1)
    have h2' := tbl_lk hT.zero h2
    obtain ⟨hlow, hH, hop⟩ := hA (d, .row e s n cs) (by simp)
    have h5 := Nat.le_of_ble_eq_true h5
    have hzr : AV.RepL σ Z w zs z.cells.toList := by
      unfold zeroT at h2'
      simp only [hi1, hi2, Option.some.injEq] at h2'
      exact h2' ▸ liftZ_repL _ _ _ _
    have hz0 : ∀ k, AV.RepL σ Z w ((List.replicate k zs).flatten) ((List.replicate k z.cells.toList).flatten) := fun k => by
      induction k with
      | zero => trivial
      | succ k ih => simpa [List.replicate_succ] using hzr.append ih
    obtain ⟨vs, hf1, hf2⟩ := fillA_sound hρ (pA := fun i => some (i * s, s)) (pV := fun i => some (i * s, s)) (fun _ _ h => h) _ h3 h4 (hz0 n)
    have hlen : vs.length = n * s := by
      have e1 := fill_size hf1
      simp at e1
      rw [e1, ← hi5]
    have hcells : ((Array.range (n * s)).map (z.cells[· % z.cells.size]!)) = ((List.replicate n z.cells.toList).flatten).toArray := range_cells z.cells n s hi5
    have hrun : (execOp a.eval o).run P w = .ok (.value (.slice (some ⟨w.heap.size, 0, none⟩) n n)) (w.alloc (.cells vs.toArray e)) := by
      have hbig : ¬ (n * s > 2 ^ 24) := by omega
      have hf' : Instr.fill (fun i => some (i * s, s)) ((List.replicate n z.cells.toList).flatten).toArray (parts.toList.map fun x => (x.1, a.eval x.2)) = some vs.toArray := hf1
      by_cases hn : n * s = 0
      · have hn0 : n = 0 := by rcases Nat.mul_eq_zero.1 hn with h | h; exact h; omega
        subst hn0
        have hf'' : Instr.fill (fun i => some (i * s, s)) (Array.map (fun _ => default) (Array.range 0)) (parts.toList.map fun x => (x.1, a.eval x.2)) = some vs.toArray := by
          have e0 : Array.map (fun _ : Nat => (default : Value)) (Array.range 0) = #[] := by simp
          rw [e0]
          simpa using hf'
        simp [execOp, ho, Instr.buildSlice, run_underlying hu, sizeOf, typeInfo, hi1, hi3, hf'', newRow]
      · simp [execOp, ho, Instr.buildSlice, run_underlying hu, sizeOf, typeInfo, hi1, hi3, hi2, hbig, hn, zeroValue, hcells, hf', newRow]
    have hrefs : AV.refsL d cs = false := fillA_refs (refsL_flatten (zeroT_refs h2') n) (cellsL_refs h3 fun x hx => hop x (by rw [ho]; simpa [Op.operands] using hx)) h4
    have hown : (w.alloc (.cells vs.toArray e)).ownsRow 0 e s (.slice (some ⟨w.heap.size, 0, none⟩) n n) n vs := by
      refine ⟨hlen, .inr ⟨w.heap.size, n, vs.toArray, rfl, Nat.zero_le _, heap_alloc_new w _, Nat.le_refl _, ?_, by simpa using hlen, by simp [← hlen]⟩⟩
      have : n ≤ n * s := Nat.le_mul_of_pos_right n hs
      unfold maxLen
      omega
    rcases Nat.eq_zero_or_pos n with h0 | h0
    · subst h0
      have hI' := hI.zero (d := d) (hd := .slice (some ⟨w.heap.size, 0, none⟩) 0 0) (ob := .row e s 0 cs) (o := .cells vs.toArray e) blk_zero hlow
        ⟨vs, rowZ_of hown, AV.RepL.mono (alloc_keeps w _ hI.zlt) (fun _ h => h) (refsL_upd _ hrefs) hf2⟩ hH
      refine wp_val hrun ?_
      exact hK _ _ _ _ hI' (fun _ h => h) (alloc_keeps w _ hI.zlt) (fun g hg => upd_skip _ _ (fun e' => hg (d, .row e s 0 cs) (by simp) e'.symm)) ⟨by rw [upd_hit], _, _, _, rfl⟩
    have hI' := hI.alloc (d := d) (hd := .slice (some ⟨w.heap.size, 0, none⟩) n n) (ob := .row e s n cs) (o := .cells vs.toArray e) (blk_slice h0) hlow
      ⟨vs, rowZ_of hown, AV.RepL.mono (alloc_keeps w _ hI.zlt) (fun _ h => h) (refsL_upd _ hrefs) hf2⟩ hH
    refine wp_val hrun ?_
    exact hK _ _ _ _ hI' (fun _ h => h) (alloc_keeps w _ hI.zlt) (fun g hg => upd_skip _ _ (fun e' => hg (d, .row e s n cs) (by simp) e'.symm)) ⟨by rw [upd_hit], _, _, _, rfl⟩
  | @box t x cs h1 =>
    have hx := cells1_rep h1 (hρ x)
    obtain ⟨hlow, hH, hop⟩ := hA (d, .box t cs) (by simp)
    have hrefs : AV.refsL d cs = false := cells1_refs h1 (hop x (by rw [ho]; simp [Op.operands]))
    have hI' := hI.alloc (d := d) (hd := .pointer (some ⟨w.heap.size, 0, none⟩)) (ob := .box t cs) (o := .cells (a.eval x).cells t) rfl hlow
      ⟨w.heap.size, _, rfl, heap_alloc_new w _, AV.RepL.mono (alloc_keeps w _ hI.zlt) (fun _ h => h) (refsL_upd _ hrefs) hx⟩ hH
    refine wp_val (v := .pointer (some ⟨w.heap.size, 0, none⟩)) (w' := w.alloc (.cells (a.eval x).cells t)) (by simp [execOp, ho, Instr.box, newVar, newRow]) ?_
    exact hK _ _ _ _ hI' (fun _ h => h) (alloc_keeps w _ hI.zlt) (fun g hg => upd_skip _ _ (fun e => hg (d, .box t cs) (by simp) e.symm)) ⟨w.heap.size, by rw [upd_hit]; rfl, rfl⟩
  | @alloc t cs h1 =>
    obtain ⟨z, hz1, hz2⟩ := zeroT_spec (w := w) (tbl_lk hT.zero h1)
    obtain ⟨hlow, hH, hop⟩ := hA (d, .box t cs) (by simp)
    have hI' := hI.alloc (d := d) (hd := .pointer (some ⟨w.heap.size, 0, none⟩)) (ob := .box t cs) (o := .cells z.cells t) rfl hlow
      ⟨w.heap.size, _, rfl, heap_alloc_new w _, hz2 ▸ liftZ_repL _ _ _ _⟩ hH
    refine wp_val (v := .pointer (some ⟨w.heap.size, 0, none⟩)) (w' := w.alloc (.cells z.cells t)) (by simp [execOp, ho, Instr.alloc, hz1, newVar, newRow]) ?_
    exact hK _ _ _ _ hI' (fun _ h => h) (alloc_keeps w _ hI.zlt) (fun g hg => upd_skip _ _ (fun e => hg (d, .box t cs) (by simp) e.symm)) ⟨w.heap.size, by rw [upd_hit]; rfl, rfl⟩
end
end Go.Proofs.YtmidechdlbcepaaGreat