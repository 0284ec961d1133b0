/- A logic of memory: bytes of strings appended; rows cleared; appends onto a part of a row; rows that nobody writes any more. -/
import Derived.Test.YtdbbmjdeeenlhaaL16
namespace Go.Proofs.Ytdbbmjdeeenlhaa
open Go.RowKit

/-- A string's bytes as cells. -/
def strFV (s : ByteArray) : List FV := s.data.toList.flatMap encB
theorem strFV_rep {σ : Nat → Value} {Z : Nat → Prop} {w : World} (s : ByteArray) : AV.RepL σ Z w ((strFV s).map .fv) (Go.Lib.strCells s) := by
  unfold strFV Go.Lib.strCells
  generalize s.data.toList = l
  induction l with
  | nil => trivial
  | cons b l ih => exact ⟨rfl, ih⟩
theorem setC_mk : ∀ {cs : List AV} {off : Nat} {us : List AV}, off + us.length ≤ cs.length → setC cs off us = some (cs.take off ++ us ++ cs.drop (off + us.length))
  | cs, 0, [], _ => by cases cs <;> simp [setC]
  | c :: cs, 0, u :: us, h => by
    have ih := setC_mk (cs := cs) (off := 0) (us := us) (by simp at h ⊢; omega)
    simp only [setC, ih]
    simp
  | c :: cs, n + 1, us, h => by
    have ih := setC_mk (cs := cs) (off := n) (us := us) (by simp at h ⊢; omega)
    simp only [setC, ih]
    rw [show n + 1 + us.length = (n + us.length) + 1 from by omega]
    simp
  | [], 0, _ :: _, h => by simp at h
  | [], n + 1, _, h => by simp at h

theorem condD {st : St} {c : Operand} {b b' : Bool} (h : st.ev c = .fv (.bool b)) (hb : b = b') : st.ev c = .fv (.bool b') := hb ▸ h
section
variable {P : Program} {T : Tbl} {n i : Nat} {ops : Array Oper} {st : St} {o : Oper} {d : Nat}
theorem appS_sem {t u e k : Nat} {s : ByteArray} {x y : Operand} {cs : List AV} {H' : Own} (hT : T.Ok P) (ho : ops[i]? = some o) (hg : o.guard = none) (hd : o.dst = some d) (hn : d < n) (hop : o.op = .call { callee := .builtin .append, args := #[x, y], argTypes := #[t, u] }) (ht' : lk T.sli t = some (e, 1, 1)) (hbt : lk T.byt e = some ()) (hu : lk T.str u = some ())
    (hB : ABase st.own e 1 (st.ev x) k cs H') (hy : st.ev y = .fv (.str s)) (h47 : k + s.size ≤ 140737488355328) (hf : Fresh st [(d, .row e 1 (k + s.size) (cs ++ (strFV s).map .fv))]) : OpSem P n ops i st ⟨(d, .osl d) :: st.t, (d, .row e 1 (k + s.size) (cs ++ (strFV s).map .fv)) :: H'⟩ := by
  rintro C a w K Q ⟨h1, h2, σ, Z, hI, ht⟩ hK
  obtain ⟨hlow, hnT, hnH⟩ := hf (d, .row e 1 (k + s.size) (cs ++ (strFV s).map .fv)) (by simp)
  obtain ⟨hut, _⟩ := sliT_spec (tbl_lk hT.sli ht')
  obtain ⟨i', hi1, hi2, hi3, hi4⟩ := bytT_spec (tbl_lk hT.byt hbt)
  have hus := strT_spec (tbl_lk hT.str hu)
  have hyv : a.eval y = .string s := by have := ev_rep ht y; rw [hy] at this; exact this.1
  have hbase : ∃ v xs, a.eval x = v ∧ rowZ w e 1 v k xs ∧ AV.RepL σ Z w cs xs ∧ AV.refsL d cs = false ∧ (∀ b, blk v = some b → (C.O0 b ∨ C.w0.heap.size ≤ b) ∧ ¬ Z b) ∧ (∀ i x, lk H' i = some x → lk st.own i = some x ∧ ∀ b, blk (σ i) = some b → some b ≠ blk v) := by
    have hxr := ev_rep ht x
    generalize st.ev x = ax at hB hxr
    cases hB with
    | nil =>
      refine ⟨.slice none 0 0, [], hxr, ⟨by simp, .inl ⟨rfl, none, rfl⟩⟩, trivial, rfl, ?_, ?_⟩
      · intro b hb
        cases hb
      · intro i x hi
        exact ⟨hi, fun b _ h => by cases h⟩
    | @own g _ _ _ hg' hrm =>
      obtain ⟨hv, _⟩ := hxr
      obtain ⟨xs, ho1, ho2⟩ := hI.has g _ hg'
      refine ⟨σ g, xs, hv, ho1, ho2, hnH _ (.row e 1 k cs) hg', fun b hb => ?_, fun i x hi => ?_⟩
      · have := hI.mine g _ b hg' hb
        exact ⟨this.1, this.2.1⟩
      · obtain ⟨h1, h2⟩ := hrm.lk i x hi
        exact ⟨h2, fun b hb e' => h1 (hI.inj i g x _ b h2 hg' hb e'.symm)⟩
  obtain ⟨v, xs, hxv, hown, hcr, hcref, hmine, hsub⟩ := hbase
  obtain ⟨v', w', hrun, hown', hgr, hdr, hbv⟩ := run_appS (P := P) w (ty := o.type) hut hus hi1 hi2 hi3 hi4 s (by unfold maxLen; omega) h47 hown
  unfold wpOp
  simp only [ho]
  rw [if_pos (by simp [Region.wanted, hg])]
  refine .inl (wp_val (v := v') (w' := w') (by simp [execOp, hop, resolve, invoke, builtin, hxv, hyv, hrun]) ?_)
  have hkeep : Keeps Z w w' := fun b hb => hgr.block b (hI.zlt b hb) (fun e => (hmine b e.symm).2 hb)
  have hv' : ∃ A n c, v' = .slice A n c := by
    rcases hown'.2 with ⟨_, A, e⟩ | ⟨_, _, _, e, _⟩ <;> exact ⟨_, _, _, e⟩
  have hrefs : AV.refsL d (cs ++ (strFV s).map .fv) = false := refsL_append hcref (refsL_fv _)
  have hrep : AV.RepL (upd σ d v') Z w' (cs ++ (strFV s).map .fv) (xs ++ Go.Lib.strCells s) := AV.RepL.mono hkeep (fun _ h => h) (refsL_upd v' hrefs) (hcr.append (strFV_rep s))
  obtain ⟨hI', _⟩ := hI.append (d := d) (v' := v') (ob := .row e 1 (k + s.size) (cs ++ (strFV s).map .fv)) hlow hnH hsub hmine hgr hdr hbv ⟨_, hown', hrep⟩
  apply hK
  refine ⟨(put_defers ..).trans h1, by simp [Act.put, hd, h2], _, Z, hI', ?_⟩
  simp only [Act.put, hd]
  refine Temps.put (ht.mono hkeep (fun _ h => h) (fun i a hi => refs_upd v' (hnT _ _ hi))) (by omega) ⟨by rw [upd_hit], hv'⟩
theorem OpSem.eqv {s s1 s2 : St} (h : OpSem P n ops i s s1) (he : Eqv s1 s2) : OpSem P n ops i s s2 := fun C a w K Q hr hK => h C a w K Q hr fun a' w' hr' => hK a' w' (he.rel hr')
theorem hNone (N : List Nat) (g : Nat) : lk (N.map fun g => (g, (none : Option OB))) g = if g ∈ N then some none else none := by
  induction N with
  | nil => simp [lk]
  | cons a N ih =>
    simp only [List.map_cons, lk_cons, ih]
    by_cases h : a = g
    · subst h; simp
    · simp [h, Ne.symm h]
theorem Step.appS {t u e k : Nat} {s : ByteArray} {x y : Operand} {cs : List AV} {H' : Own} (ho : ops[i]? = some o) (hg : o.guard = none) (hd : o.dst = some d) (hn : d < n) (hop : o.op = .call { callee := .builtin .append, args := #[x, y], argTypes := #[t, u] }) (ht' : lk T.sli t = some (e, 1, 1)) (hbt : lk T.byt e = some ()) (hu : lk T.str u = some ())
    (hB : ABase st.own e 1 (st.ev x) k cs H') (hy : st.ev y = .fv (.str s)) (h47 : k + s.size ≤ 140737488355328) (hf : Fresh st [(d, .row e 1 (k + s.size) (cs ++ (strFV s).map .fv))]) :
    Step P T n ops i ⟨baseN (st.ev x), d :: baseN (st.ev x), [d]⟩ st ⟨(d, .osl d) :: st.t, (d, .row e 1 (k + s.size) (cs ++ (strFV s).map .fv)) :: H'⟩ := by
  intro hT
  obtain ⟨hlow, hnT, hnH⟩ := hf (d, .row e 1 (k + s.size) (cs ++ (strFV s).map .fv)) (by simp)
  have hbase : ∀ s2 : St, s2.ev x = st.ev x → (∀ g ∈ baseN (st.ev x), lk s2.own g = lk st.own g) → ABase s2.own e 1 (s2.ev x) k cs (appD ((baseN (st.ev x)).map fun g => (g, none)) s2.own) := by
    intro s2 hx hl
    rw [hx]
    generalize st.ev x = ax at hB hl
    cases hB with
    | nil => exact .nil
    | @own g _ _ _ hg _ => exact .own ((hl g (by simp [baseN])).trans hg) (rmv_p g _)
  have hH' : ∀ g, lk H' g = lk (appD ((baseN (st.ev x)).map fun g => (g, none)) st.own) g := by
    intro g
    generalize st.ev x = ax at hB
    cases hB with
    | nil => rfl
    | @own g0 _ _ _ hg hr =>
      simp only [baseN, List.map_cons, List.map_nil, appD]
      rw [lk_rmv]
      split
      · rename_i e; subst e; exact hr.1
      · rename_i e; exact hr.2 g (Ne.symm e)
  refine ⟨o, some (d, .osl d), (d, some (.row e 1 (k + s.size) (cs ++ (strFV s).map .fv))) :: (baseN (st.ev x)).map fun g => (g, none), ho, ⟨fun s2 s2' e1 e2 hf2 hi => ?_, fun g e1 e2 e3 _ => ?_, fun q hq => (by obtain rfl := Option.some.inj hq; exact hd), fun q z hk => ?_, fun g hg => (by simp at hg; simp [hg])⟩, fun g hg => ?_, ⟨fun _ => rfl, fun g => ?_⟩⟩
  · have he := ev_looks (st := st) (st' := s2) e1
    rw [hop] at he
    have hx := he x (by simp [Op.operands, Call.operands])
    have hy' := he y (by simp [Op.operands, Call.operands])
    refine (appS_sem hT ho hg hd hn hop ht' hbt hu (hbase s2 hx e2) (hy'.trans hy) h47 (fun p hp => by simp at hp; subst hp; exact ⟨hlow, hf2 d (by simp)⟩)).eqv ⟨fun j => hi.1 j, fun g => ?_⟩
    rw [hi.2, eff_cons, lk_cons, lk_app]
  · have h13 := ev_looks_refs e1
    rw [hop] at h13
    have hx := h13 x (by simp [Op.operands, Call.operands])
    refine ⟨fun q hq => ?_, fun q ob hk => ?_⟩
    · obtain rfl := Option.some.inj hq
      simp only [AV.refs]
      cases e : Nat.beq d g with
      | false => rfl
      | true => exact absurd (Nat.eq_of_beq_eq_true e) (by intro e; subst e; simp at e3)
    · rw [lk_cons, hNone] at hk
      split at hk
      · simp only [Option.some.injEq] at hk
        subst hk
        refine refsL_append ?_ (refsL_fv _)
        generalize st.ev x = ax at hB hx e2
        cases hB with
        | nil => rfl
        | @own g0 _ _ _ hg _ => exact e2 g0 (by simp [baseN]) _ hg
      · split at hk <;> simp at hk
  · rw [lk_cons, hNone] at hk
    split at hk
    · rename_i e; subst e; simp
    · split at hk
      · rename_i h; simp [h]
      · cases hk
  · simp at hg
    subst hg
    exact ⟨hnT, hnH⟩
  · show lk ((d, _) :: H') g = _
    rw [eff_cons, lk_cons, hH', lk_app]

theorem Ops.appS {l : List Oper} {fps : List Fp} {K : St → Prop} {t : List (Nat × AV)} {H H' : Own} {ty u e k : Nat} {s : ByteArray} {x y : Operand} {ax : AV} {cs : List AV} (hg : o.guard = none) (hd : o.dst = some d) (hn : Nat.blt d n = true) (hop : o.op = .call { callee := .builtin .append, args := #[x, y], argTypes := #[ty, u] }) (hty : lk T.sli ty = some (e, 1, 1)) (hbt : lk T.byt e = some ()) (hu : lk T.str u = some ())
    (hx : evO t x = some ax) (hy : evO t y = some (.fv (.str s))) (hB : ABase H e 1 ax k cs H') (h47 : k + s.size ≤ 140737488355328) (hf : freshB ⟨t, H⟩ [(d, .row e 1 (k + s.size) (cs ++ (strFV s).map .fv))] = true) (hK : OpsL P T n ops (i + 1) l fps K ⟨(d, .osl d) :: t, (d, .row e 1 (k + s.size) (cs ++ (strFV s).map .fv)) :: H'⟩) :
    OpsL P T n ops i (o :: l) (⟨baseN ax, d :: baseN ax, [d]⟩ :: fps) K ⟨t, H⟩ :=
  ⟨_, _, rfl, fun ho => ⟨_, by
    have e1 := evO_ev (st := ⟨t, H⟩) hx
    have := Step.appS (P := P) (T := T) (n := n) (st := ⟨t, H⟩) (d := d) (k := k) (cs := cs) ho hg hd (by simpa [Nat.blt_eq] using hn) hop hty hbt hu (by rw [e1]; exact hB) (evO_ev (st := ⟨t, H⟩) hy) h47 (freshB_mem hf)
    rw [e1] at this
    exact this, hK.out⟩⟩
end
/-- A function that gets blocks and leaves blocks, by its body. -/
theorem FunO.body {P : Program} {T : Tbl} {f : FuncId} {fn : Func} {c : Code} {n : Nat} {args : List AV} {own own' : Own} {r : AV} (hT : T.Ok P) (hf : P.funcs[f]? = some fn) (hb : fn.body = some c) (hen : enterB P f = true) (hn : fn.ntmps = n) (hargs : Nat.ble args.length n = true) {rvs : List ResultVar} (hrv : fn.results.toList = rvs)
    (h : WP P n c (Post T rvs fun r' o' => r' = r ∧ o' = own') ⟨argT 0 args, own⟩) : FunO P f args own r own' := Triple.body hT hf hb hen hn hargs hrv h
theorem Post.ofO {T : Tbl} {rvs : List ResultVar} {r : AV} {own' : Own} {e : Exit} {s s' : St} {rs : List AV} (he : e = .ret ∨ e = .normal) (hle : St.Le s s') (h1 : retL T s' rvs = some rs) (h2 : retA rs = r) (h3 : s'.own = own') : Post T rvs (fun r' o' => r' = r ∧ o' = own') e s := by
  rcases he with rfl | rfl <;> exact ⟨s', hle, rs, h1, h2, h3⟩
/-- What a function leaves is nobody's. -/
theorem FunO.froz {P : Program} {f : FuncId} {args : List AV} {own' : Own} {r r' : AV} (F : List Nat) (h : FunO P f args [] r own') (hr : AV.To [] F own' r r') : Fun P f args r' := by
  refine ⟨h.1, fun σ Z w vs hI hrep => (h.2 σ Z w vs hI hrep).mono ?_⟩
  rintro e w' ⟨v, r0, own0, σ', Z', rfl, ⟨rfl, rfl⟩, hI', hr'⟩
  have hv := hr.rep hI' hr'
  refine ⟨v, r', [], _, _, rfl, ⟨rfl, rfl⟩, ⟨hI'.os, hI'.tape, hI'.output, hI'.size, hI'.drawn, hI'.frame, fun b hb => ?_, fun b hb => .inl (hI'.zold b hb), fun b hb => ?_, fun g ob h => by simp [lk] at h, fun g ob b h => by simp [lk] at h, fun g g' ob ob' b h => by simp [lk] at h, fun g hg => hI'.keep g hg⟩, hv⟩
  · rcases hb with h | ⟨g, ob, _, hg, hb⟩
    · exact hI'.zlt b h
    · exact (hI'.mine g ob b hg hb).2.2
  · rcases hb with h | ⟨g, ob, _, hg, hb⟩
    · exact hI'.znew b h
    · exact .inr (hI'.mine g ob b hg hb).1
/-- 'fillA', in one pass. -/
def fillS (place : Nat → Option (Nat × Nat)) : List AV → List (Nat × List AV) → Option (List AV)
  | cs, [] => some cs
  | cs, (i, us) :: rest => match place i with
    | some (off, size) => match Nat.beq us.length size with
      | true => match setC cs off us with
        | some cs' => fillS place cs' rest
        | none => none
      | false => none
    | none => none
theorem fillS_eq {place : Nat → Option (Nat × Nat)} : ∀ {l : List (Nat × List AV)} {cs r : List AV}, fillS place cs l = some r → fillA place cs l = some r
  | [], _, _, h => h
  | (i, us) :: rest, cs, r, h => by
    unfold fillS at h
    unfold fillA
    split at h
    · rename_i off size hp
      split at h
      · rename_i hb
        split at h
        · rename_i cs' hs
          obtain ⟨h1, h2⟩ := setC_eq hs
          have e := Nat.eq_of_beq_eq_true hb
          rw [hp]
          dsimp only
          rw [hb, Nat.ble_eq_true_of_le (show off + size ≤ cs.length by omega)]
          dsimp only
          rw [← e, ← h2]
          exact fillS_eq h
        · cases h
      · cases h
    · cases h
section
variable {T : Tbl} {ρ : Operand → AV} {H : Own} {d : Nat}
theorem Eff.buildS {t : Nat} {parts : Array (Nat × Operand)} {zs cs : List AV} {pl : List (Nat × Nat)} {us : List (Nat × List AV)} (h1 : lk T.zero t = some zs) (h2 : lk T.plc t = some pl) (h3 : cellsL ρ parts.toList = some us) (h4 : fillS (pl[·]?) zs us = some cs) : Eff T ρ H d (.build t parts) (.agg cs) [] :=
  .build h1 h2 h3 (fillS_eq h4)
theorem Eff.bsliceS {t n e s b : Nat} {parts : Array (Nat × Operand)} {zs cs : List AV} {us : List (Nat × List AV)} (h1 : lk T.sli t = some (e, s, b)) (h2 : lk T.zero e = some zs) (h3 : cellsL ρ parts.toList = some us) (h4 : fillS (fun i => some (i * s, s)) ((List.replicate n zs).flatten) us = some cs) (h5 : Nat.ble (n * s) 100000 = true) : Eff T ρ H d (.buildSlice t n parts) (.osl d) [(d, .row e s n cs)] :=
  .bslice h1 h2 h3 (fillS_eq h4) h5
theorem Eff.bsliceFS {t n e s b : Nat} {parts : Array (Nat × Operand)} {zs cs : List AV} {us : List (Nat × List AV)} {fs : List FV} (h1 : lk T.sli t = some (e, s, b)) (h2 : lk T.zero e = some zs) (h3 : cellsL ρ parts.toList = some us) (h4 : fillS (fun i => some (i * s, s)) ((List.replicate n zs).flatten) us = some cs) (h5 : Nat.ble (n * s) 100000 = true) (h6 : plainL cs = some fs) : Eff T ρ H d (.buildSlice t n parts) (.fv (.sl fs n)) [] :=
  .bsliceF h1 h2 h3 (fillS_eq h4) h5 h6
end
end Go.Proofs.Ytdbbmjdeeenlhaa
