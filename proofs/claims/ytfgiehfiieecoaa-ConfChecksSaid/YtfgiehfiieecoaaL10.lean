/- A logic of memory: the steps of a walk. -/
import Derived.Test.YtfgiehfiieecoaaL9
namespace Go.Proofs.Ytfgiehfiieecoaa
open Go.RowKit

/-- Data of many elements, each of some cells. -/
def slOf {α : Type} (enc : α → List FV) (l : List α) : FV := .sl (l.flatMap enc) l.length
theorem flatMap_len {α : Type} {enc : α → List FV} {s : Nat} (hs : ∀ x, (enc x).length = s) : ∀ (l : List α), (l.flatMap enc).length = l.length * s
  | [] => by simp
  | x :: l => by rw [List.flatMap_cons, List.length_append, hs, flatMap_len hs l, List.length_cons, Nat.add_mul, Nat.one_mul, Nat.add_comm]
theorem flatMap_at {α : Type} {enc : α → List FV} {s : Nat} (hs : ∀ x, (enc x).length = s) : ∀ {l : List α} {i : Nat} {x : α}, l[i]? = some x → ((l.flatMap enc).drop (i * s)).take s = enc x
  | [], _, _, h => by simp at h
  | y :: l, 0, x, h => by
    obtain rfl := Option.some.inj h
    rw [Nat.zero_mul, List.drop_zero, List.flatMap_cons, ← hs y, List.take_left]
  | y :: l, i + 1, x, h => by
    have h' : l[i]? = some x := by simpa using h
    rw [List.flatMap_cons, Nat.add_mul, Nat.one_mul, Nat.add_comm, ← List.drop_drop, ← hs y, List.drop_left, hs y]
    exact flatMap_at hs h'

/-- An operand's value, if it is known. -/
def evO (t : List (Nat × AV)) : Operand → Option AV
  | .tmp i => lk t i
  | .const (.int k n) => some (.fv (.int k n))
  | .const (.bool b) => some (.fv (.bool b))
  | .const (.slice none 0 0) => some .nil
  | .func f => some (.fn f [])
  | _ => none
theorem evO_ev {st : St} {x : Operand} {r : AV} (h : evO st.t x = some r) : st.ev x = r := by
  unfold evO at h
  split at h
  · simp [St.ev, h]
  · obtain rfl := Option.some.inj h; rfl
  · obtain rfl := Option.some.inj h; rfl
  · obtain rfl := Option.some.inj h; rfl
  · obtain rfl := Option.some.inj h; rfl
  · cases h
def evL (t : List (Nat × AV)) : List Operand → Option (List AV)
  | [] => some []
  | x :: l => match evO t x with
    | some r => match evL t l with
      | some rs => some (r :: rs)
      | none => none
    | none => none
theorem evL_ev {st : St} : ∀ {l : List Operand} {rs : List AV}, evL st.t l = some rs → l.map st.ev = rs
  | [], rs, h => by obtain rfl := Option.some.inj h; rfl
  | x :: l, rs, h => by
    simp only [evL] at h
    split at h
    · rename_i r hr
      split at h
      · rename_i rs' hrs
        obtain rfl := Option.some.inj h
        simp [evO_ev hr, evL_ev hrs]
      · cases h
    · cases h

/-- The same under a condition. -/
def evG (t : List (Nat × AV)) (x : Operand) : Option AV :=
  match evO t x with
  | some (.whn _ a) => some a
  | some .any => some .any
  | some (.fv f) => some (.fv f)
  | some .nil => some .nil
  | some (.fptr cs) => some (.fptr cs)
  | some (.optr g o) => some (.optr g o)
  | some (.osl g) => some (.osl g)
  | some (.fn f cs) => some (.fn f cs)
  | some (.agg cs) => some (.agg cs)
  | some (.tup cs) => some (.tup cs)
  | none => none
theorem evG_ev {st : St} {x : Operand} {r : AV} (h : evG st.t x = some r) : (st.ev x).strip = r := by
  unfold evG at h
  split at h <;> first
    | (rename_i e; rw [evO_ev e]; obtain rfl := Option.some.inj h; rfl)
    | cases h
def evGL (t : List (Nat × AV)) : List Operand → Option (List AV)
  | [] => some []
  | x :: l => match evG t x with
    | some r => match evGL t l with
      | some rs => some (r :: rs)
      | none => none
    | none => none
theorem evGL_ev {st : St} : ∀ {l : List Operand} {rs : List AV}, evGL st.t l = some rs → l.map (fun x => (st.ev x).strip) = rs
  | [], rs, h => by obtain rfl := Option.some.inj h; rfl
  | x :: l, rs, h => by
    simp only [evGL] at h
    split at h
    · rename_i r hr
      split at h
      · rename_i rs' hrs
        obtain rfl := Option.some.inj h
        simp [evG_ev hr, evGL_ev hrs]
      · cases h
    · cases h
def gokAll (c : Prop) (st : St) : List Operand → Prop
  | [] => True
  | x :: l => gok c (st.ev x) ∧ gokAll c st l
theorem gokAll_mem {c : Prop} {st : St} : ∀ {l : List Operand}, gokAll c st l → ∀ x ∈ l, gok c (st.ev x)
  | [], _, x, hx => by cases hx
  | y :: l, h, x, hx => by
    rcases List.mem_cons.1 hx with rfl | hx
    · exact h.1
    · exact gokAll_mem h.2 x hx

section
variable {P : Program} {T : Tbl} {ρ : Operand → AV} {H : Own} {d : Nat} {st : St} {r : AV}
theorem Eff.mvG {x : Operand} (h : evG st.t x = some r) : Eff T (fun x => (st.ev x).strip) H d (.move x) r [] := by
  have := Eff.move (T := T) (ρ := fun x => (st.ev x).strip) (H := H) (d := d) (x := x)
  simp only [evG_ev h] at this
  exact this
theorem Eff.mv {x : Operand} (h : evO st.t x = some r) : Eff T st.ev H d (.move x) r [] := by rw [← evO_ev h]; exact .move
theorem Eff.asg {x : Operand} (h : evO st.t x = some r) : Eff T st.ev H d (.assign x) r [] := by rw [← evO_ev h]; exact .assign
theorem I64.wrap {n : Int} (h1 : -9223372036854775808 ≤ n) (h2 : n ≤ 9223372036854775807) : IntKind.i64.wrap n = n := IntWalk.i64_in n ⟨h1, h2⟩
theorem Eff.add64 {t u : Nat} {x y : Operand} {a b : Int} (h1 : ρ x = .fv (.int .i64 a)) (h2 : ρ y = .fv (.int .i64 b)) (h3 : -9223372036854775808 ≤ a + b) (h4 : a + b ≤ 9223372036854775807) : Eff T ρ H d (.binOp .add t x y u) (.fv (.int .i64 (a + b))) [] := by
  have := Eff.bin (T := T) (H := H) (d := d) (op := .add) (t := t) (u := u) h1 h2 rfl
  rwa [I64.wrap h3 h4] at this
theorem Eff.sub64 {t u : Nat} {x y : Operand} {a b : Int} (h1 : ρ x = .fv (.int .i64 a)) (h2 : ρ y = .fv (.int .i64 b)) (h3 : -9223372036854775808 ≤ a - b) (h4 : a - b ≤ 9223372036854775807) : Eff T ρ H d (.binOp .sub t x y u) (.fv (.int .i64 (a - b))) [] := by
  have := Eff.bin (T := T) (H := H) (d := d) (op := .sub) (t := t) (u := u) h1 h2 rfl
  rwa [I64.wrap h3 h4] at this
theorem Eff.mul64 {t u : Nat} {x y : Operand} {a b : Int} (h1 : ρ x = .fv (.int .i64 a)) (h2 : ρ y = .fv (.int .i64 b)) (h3 : -9223372036854775808 ≤ a * b) (h4 : a * b ≤ 9223372036854775807) : Eff T ρ H d (.binOp .mul t x y u) (.fv (.int .i64 (a * b))) [] := by
  have := Eff.bin (T := T) (H := H) (d := d) (op := .mul) (t := t) (u := u) h1 h2 rfl
  rwa [I64.wrap h3 h4] at this
theorem Eff.quo64 {t u : Nat} {x y : Operand} {a b : Int} (h1 : ρ x = .fv (.int .i64 a)) (h2 : ρ y = .fv (.int .i64 b)) (h3 : 0 ≤ a) (h4 : a ≤ 9223372036854775807) (h5 : 0 < b) : Eff T ρ H d (.binOp .quo t x y u) (.fv (.int .i64 (a / b))) [] := by
  have := Eff.quo (T := T) (H := H) (d := d) (t := t) (u := u) h1 h2 (by omega)
  rw [Int.tdiv_eq_ediv_of_nonneg h3] at this
  have h6 : 0 ≤ a / b := Int.ediv_nonneg h3 (by omega)
  have h7 : a / b ≤ a := Int.ediv_le_self b h3
  rwa [I64.wrap (by omega) (by omega)] at this
theorem Eff.rem64 {t u : Nat} {x y : Operand} {a b : Int} (h1 : ρ x = .fv (.int .i64 a)) (h2 : ρ y = .fv (.int .i64 b)) (h3 : 0 ≤ a) (h5 : 0 < b) : Eff T ρ H d (.binOp .rem t x y u) (.fv (.int .i64 (a % b))) [] := by
  have := Eff.rem (T := T) (H := H) (d := d) (t := t) (u := u) h1 h2 (by omega)
  rwa [Int.tmod_eq_emod_of_nonneg h3] at this
/-- An element of many. -/
theorem Eff.idxS {α : Type} {enc : α → List FV} {t : Nat} {x y : Operand} {l : List α} {e s b : Nat} {k : IntKind} {i : Nat} {u : α} (h1 : ρ x = .fv (slOf enc l)) (h2 : ρ y = .fv (.int k i)) (h3 : lk T.sli t = some (e, s, b)) (hs : ∀ x, (enc x).length = s) (hu : l[i]? = some u) :
    Eff T ρ H d (.indexAddr t x y) (.fptr (enc u)) [] := by
  have hlt := (List.getElem?_eq_some_iff.1 hu).1
  have := Eff.idxF (T := T) (H := H) (d := d) h1 h2 h3 (by omega) (by omega) (flatMap_len hs l)
  rw [Int.toNat_natCast, flatMap_at hs hu] at this
  exact this
end

section
variable {P : Program} {T : Tbl} {n i : Nat} {ops : Array Oper} {l : List Oper} {K : St → Prop} {t : List (Nat × AV)} {H A : Own} {o : Oper} {d : Nat} {r : AV}
theorem Ops.loc (hg : o.guard = none) (hd : o.dst = some d) (hn : Nat.blt d n = true) (hE : LEff P T (St.ev ⟨t, H⟩) H d o.op r []) (hK : OpsL P T n ops (i + 1) l K ⟨(d, r) :: t, H⟩) : OpsL P T n ops i (o :: l) K ⟨t, H⟩ :=
  ⟨fun ho => ⟨_, .loc ho hg hd (by simpa [Nat.blt_eq] using hn) hE (fun _ h => by cases h), hK.out⟩⟩
theorem Ops.new {g : Nat} {ob : OB} (hg : o.guard = none) (hd : o.dst = some d) (hn : Nat.blt d n = true) (hE : LEff P T (St.ev ⟨t, H⟩) H d o.op r [(g, ob)]) (hf : freshB ⟨t, H⟩ [(g, ob)] = true) (hK : OpsL P T n ops (i + 1) l K ⟨(d, r) :: t, (g, ob) :: H⟩) : OpsL P T n ops i (o :: l) K ⟨t, H⟩ :=
  ⟨fun ho => ⟨_, .loc ho hg hd (by simpa [Nat.blt_eq] using hn) hE (freshB_mem hf), hK.out⟩⟩
theorem Ops.gst {oj : Oper} {j tj : Nat} {want : Bool} {ag : AV} {c : Prop} (hg : o.guard = some (j, want)) (hd : o.dst = some d) (hn : Nat.blt d n = true) (hj : ops[j]? = some oj) (hdj : oj.dst = some tj) (hnj : Nat.blt tj n = true) (hb : lk t tj = some ag) (hgv : GVal want ag c)
    (hgo : c → gokAll c ⟨t, H⟩ o.op.operands.toList) (hE : c → LEff P T (fun x => (St.ev ⟨t, H⟩ x).strip) H d o.op r []) (hf : r.sub (o.op.operands.toList.map (St.ev ⟨t, H⟩)) = true) (hq : loudOp o.op = false) (hK : OpsL P T n ops (i + 1) l K ⟨(d, .whn c r) :: t, H⟩) : OpsL P T n ops i (o :: l) K ⟨t, H⟩ :=
  ⟨fun ho => ⟨_, .gst ho hg hd (by simpa [Nat.blt_eq] using hn) hj hdj (by simpa [Nat.blt_eq] using hnj) hb hgv (fun h => ⟨fun x hx => .strip (gokAll_mem (hgo h) x (by simpa using hx)), hE h⟩) hf hq, hK.out⟩⟩
/-- '&&', '||' under a guard. -/
theorem Ops.gand {oj : Oper} {j tj : Nat} {want b b' : Bool} {ag : AV} {c c1 c2 : Prop} {q x : Operand} (hg : o.guard = some (j, want)) (hd : o.dst = some d) (hn : Nat.blt d n = true) (hj : ops[j]? = some oj) (hdj : oj.dst = some tj) (hnj : Nat.blt tj n = true) (hb : lk t tj = some ag) (hgv : GVal want ag c)
    (hop : o.op = .pick q x (.const (.bool false))) (h1 : evO t q = some (.whn c1 (.fv (.bool b)))) (h2 : evO t x = some (.whn c2 (.fv (.bool b')))) (hxq : q ≠ x) (h4 : c → c1) (h5 : c → (c2 ↔ b = true)) (hK : OpsL P T n ops (i + 1) l K ⟨(d, .whn c (.fv (.bool (b && b')))) :: t, H⟩) : OpsL P T n ops i (o :: l) K ⟨t, H⟩ := by
  refine ⟨fun ho => ?_⟩
  classical
  have e1 := evO_ev (st := ⟨t, H⟩) h1
  have e2 := evO_ev (st := ⟨t, H⟩) h2
  by_cases hcn : c
  · refine ⟨_, .gst (ρ := fun z => if z = x then .whn (b = true) (.fv (.bool b')) else if z = q then .fv (.bool b) else (St.ev ⟨t, H⟩ z)) ho hg hd (by simpa [Nat.blt_eq] using hn) hj hdj (by simpa [Nat.blt_eq] using hnj) hb hgv (fun hc => ⟨fun z hz => ?_, ?_⟩) rfl (by rw [hop]; rfl), hK.out⟩
    · by_cases hzx : z = x
      · subst hzx
        simp only [if_true, e2]
        exact .part h5
      · by_cases hzq : z = q
        · subst hzq
          simp only [hzx, if_false, if_true, e1]
          exact .strip (a := .whn c1 (.fv (.bool b))) h4
        · simp only [hzx, hzq, if_false]; exact .refl _
    · rw [hop]
      have h6 : (Operand.const (Value.bool false)) ≠ x := by rintro rfl; simp [evO] at h2
      have h7 : (Operand.const (Value.bool false)) ≠ q := by rintro rfl; simp [evO] at h1
      have hA : (if q = x then AV.whn (b = true) (.fv (.bool b')) else if q = q then .fv (.bool b) else (St.ev ⟨t, H⟩ q)) = .fv (.bool b) := by simp [hxq]
      have hB : (if x = x then AV.whn (b = true) (.fv (.bool b')) else if x = q then .fv (.bool b) else (St.ev ⟨t, H⟩ x)) = .whn (b = true) (.fv (.bool b')) := by simp
      have hC : (if (Operand.const (Value.bool false)) = x then AV.whn (b = true) (.fv (.bool b')) else if (Operand.const (Value.bool false)) = q then .fv (.bool b) else (St.ev ⟨t, H⟩ (Operand.const (Value.bool false)))) = .fv (.bool false) := by simp [h6, h7, St.ev, liftV]
      exact .eff (.and hA hB hC)
  · exact ⟨_, .gst (ρ := fun _ => .any) ho hg hd (by simpa [Nat.blt_eq] using hn) hj hdj (by simpa [Nat.blt_eq] using hnj) hb hgv (fun hc => absurd hc hcn) rfl (by rw [hop]; rfl), hK.out⟩
theorem Ops.gor {oj : Oper} {j tj : Nat} {want b b' : Bool} {ag : AV} {c c1 c2 : Prop} {q x : Operand} (hg : o.guard = some (j, want)) (hd : o.dst = some d) (hn : Nat.blt d n = true) (hj : ops[j]? = some oj) (hdj : oj.dst = some tj) (hnj : Nat.blt tj n = true) (hb : lk t tj = some ag) (hgv : GVal want ag c)
    (hop : o.op = .pick q (.const (.bool true)) x) (h1 : evO t q = some (.whn c1 (.fv (.bool b)))) (h2 : evO t x = some (.whn c2 (.fv (.bool b')))) (hxq : q ≠ x) (h4 : c → c1) (h5 : c → (c2 ↔ b = false)) (hK : OpsL P T n ops (i + 1) l K ⟨(d, .whn c (.fv (.bool (b || b')))) :: t, H⟩) : OpsL P T n ops i (o :: l) K ⟨t, H⟩ := by
  refine ⟨fun ho => ?_⟩
  classical
  have e1 := evO_ev (st := ⟨t, H⟩) h1
  have e2 := evO_ev (st := ⟨t, H⟩) h2
  by_cases hcn : c
  · refine ⟨_, .gst (ρ := fun z => if z = x then .whn (b = false) (.fv (.bool b')) else if z = q then .fv (.bool b) else (St.ev ⟨t, H⟩ z)) ho hg hd (by simpa [Nat.blt_eq] using hn) hj hdj (by simpa [Nat.blt_eq] using hnj) hb hgv (fun hc => ⟨fun z hz => ?_, ?_⟩) rfl (by rw [hop]; rfl), hK.out⟩
    · by_cases hzx : z = x
      · subst hzx
        simp only [if_true, e2]
        exact .part h5
      · by_cases hzq : z = q
        · subst hzq
          simp only [hzx, if_false, if_true, e1]
          exact .strip (a := .whn c1 (.fv (.bool b))) h4
        · simp only [hzx, hzq, if_false]; exact .refl _
    · rw [hop]
      have h6 : (Operand.const (Value.bool true)) ≠ x := by rintro rfl; simp [evO] at h2
      have h7 : (Operand.const (Value.bool true)) ≠ q := by rintro rfl; simp [evO] at h1
      have hA : (if q = x then AV.whn (b = false) (.fv (.bool b')) else if q = q then .fv (.bool b) else (St.ev ⟨t, H⟩ q)) = .fv (.bool b) := by simp [hxq]
      have hB : (if x = x then AV.whn (b = false) (.fv (.bool b')) else if x = q then .fv (.bool b) else (St.ev ⟨t, H⟩ x)) = .whn (b = false) (.fv (.bool b')) := by simp
      have hC : (if (Operand.const (Value.bool true)) = x then AV.whn (b = false) (.fv (.bool b')) else if (Operand.const (Value.bool true)) = q then .fv (.bool b) else (St.ev ⟨t, H⟩ (Operand.const (Value.bool true)))) = .fv (.bool true) := by simp [h6, h7, St.ev, liftV]
      exact .eff (.or hA hC hB)
  · exact ⟨_, .gst (ρ := fun _ => .any) ho hg hd (by simpa [Nat.blt_eq] using hn) hj hdj (by simpa [Nat.blt_eq] using hnj) hb hgv (fun hc => absurd hc hcn) rfl (by rw [hop]; rfl), hK.out⟩
theorem Ops.nil {st : St} (h : K st) : OpsL P T n ops i [] K st := ⟨h⟩
theorem LEff.callL {f : Operand} {args : Array Operand} {ts : Array TypeId} {fid : FuncId} {cs as0 as : List AV} (h1 : evO t f = some (.fn fid cs)) (h2 : evL t args.toList = some as0) (h3 : as0 ++ cs = as) (h4 : Fun P fid as r) (h5 : r.flat = true) :
    LEff P T (St.ev ⟨t, H⟩) H d (.call { callee := .value f, args := args, argTypes := ts }) r [] :=
  .call (evO_ev (st := ⟨t, H⟩) h1) (by rw [evL_ev (st := ⟨t, H⟩) h2, h3]; exact .refl _) h4 h5
theorem LEff.callG {f : Operand} {args : Array Operand} {ts : Array TypeId} {fid : FuncId} {cs as0 as : List AV} (h1 : evG t f = some (.fn fid cs)) (h2 : evGL t args.toList = some as0) (h3 : as0 ++ cs = as) (h4 : Fun P fid as r) (h5 : r.flat = true) :
    LEff P T (fun x => (St.ev ⟨t, H⟩ x).strip) H d (.call { callee := .value f, args := args, argTypes := ts }) r [] :=
  .call (evG_ev (st := ⟨t, H⟩) h1) (by rw [evGL_ev (st := ⟨t, H⟩) h2, h3]; exact .refl _) h4 h5
theorem WP.condT {c : Operand} {x y : Code} {Q : Exit → St → Prop} {st : St} (hc : st.ev c = .fv (.bool true)) (h : WP P n x Q st) : WP P n (.cond c x y) Q st := .cond hc (fun _ => h) (fun e => by cases e)
theorem WP.condF {c : Operand} {x y : Code} {Q : Exit → St → Prop} {st : St} (hc : st.ev c = .fv (.bool false)) (h : WP P n y Q st) : WP P n (.cond c x y) Q st := .cond hc (fun e => by cases e) (fun _ => h)
theorem thenQ.nor {next : St → Prop} {Q : Exit → St → Prop} {s : St} (h : next s) : thenQ next Q .normal s := h
theorem thenQ.ex {next : St → Prop} {Q : Exit → St → Prop} {s : St} {i : Nat} (h : Q (.exit i) s) : thenQ next Q (.exit i) s := h
theorem thenQ.ret {next : St → Prop} {Q : Exit → St → Prop} {s : St} (h : Q .ret s) : thenQ next Q .ret s := h
theorem blockQ.nor {Q : Exit → St → Prop} {s : St} {id : Nat} (h : Q .normal s) : blockQ id Q .normal s := h
theorem blockQ.ret {Q : Exit → St → Prop} {s : St} {id : Nat} (h : Q .ret s) : blockQ id Q .ret s := h
theorem blockQ.hit {Q : Exit → St → Prop} {s : St} {i id : Nat} (e : Nat.beq i id = true) (h : Q .normal s) : blockQ id Q (.exit i) s := by simp only [blockQ, e]; exact h
theorem blockQ.out {Q : Exit → St → Prop} {s : St} {i id : Nat} (e : Nat.beq i id = false) (h : Q (.exit i) s) : blockQ id Q (.exit i) s := by simp only [blockQ, e]; exact h
theorem WP.seqK {x y : Code} {Q : Exit → St → Prop} {st : St} (h : ∀ K : St → Prop, (∀ s, WP P n y Q s → K s) → WP P n x (thenQ K Q) st) : WP P n (.seq x y) Q st := .seq (h _ fun _ h => h)
theorem WP.reg {id : Nat} {Q : Exit → St → Prop} {st : St} (hT : T.Ok P) (hl : ops.toList = l) (h : OpsL P T n ops 0 l (Q .normal) st) : WP P n (.region id ops false) Q st := .region hT (OpsL.all (by rw [hl]; exact h))
end
end Go.Proofs.Ytfgiehfiieecoaa
