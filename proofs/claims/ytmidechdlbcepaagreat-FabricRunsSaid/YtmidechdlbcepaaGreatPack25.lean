import Derived.Test.YtmidechdlbcepaaGreatPack24
import Derived.Test.YtmidechdlbcepaaGreatPack23
import Derived.Test.YtmidechdlbcepaaGreatPack22
import Derived.Test.YtmidechdlbcepaaGreatPack13
set_option linter.unusedSimpArgs false
set_option linter.unusedVariables false
namespace Go.Proofs.YtmidechdlbcepaaGreat
open Go.RowKit
def strFV (s : ByteArray) : List FV := s.data.toList.flatMap encB
theorem strFV_rep {σ : Nat → Value} {Z : Nat → Prop} {w : World} (s : ByteArray) : AV.RepL σ Z w ((strFV s).map .fv) (Go.Lib.strCells s) := by
  unfold strFV Go.Lib.strCells
  generalize s.data.toList = l
  induction l with
  | nil => trivial
  | cons b l ih => exact ⟨rfl, ih⟩
theorem setC_mk : ∀ {cs : List AV} {off : Nat} {us : List AV}, off + us.length ≤ cs.length → setC cs off us = some (cs.take off ++ us ++ cs.drop (off + us.length))
  | cs, 0, [], _ => by cases cs <;> simp [setC]
  | c :: cs, 0, u :: us, h => by
    have ih := setC_mk (cs := cs) (off := 0) (us := us) (by simp at h ⊢; omega)
    simp only [setC, ih]
    simp
  | c :: cs, n + 1, us, h => by
    have ih := setC_mk (cs := cs) (off := n) (us := us) (by simp at h ⊢; omega)
    simp only [setC, ih]
    rw [show n + 1 + us.length = (n + us.length) + 1 from by omega]
    simp
  | [], 0, _ :: _, h => by simp at h
  | [], n + 1, _, h => by simp at h

section
variable {P : Program} {T : Tbl} {n i : Nat} {ops : Array Oper} {st : St} {o : Oper} {d : Nat}
theorem appS_sem {t u e k : Nat} {s : ByteArray} {x y : Operand} {cs : List AV} {H' : Own} (hT : T.Ok P) (ho : ops[i]? = some o) (hg : o.guard = none) (hd : o.dst = some d) (hn : d < n) (hop : o.op = .call { callee := .builtin .append, args := #[x, y], argTypes := #[t, u] }) (ht' : lk T.sli t = some (e, 1, 1)) (hbt : lk T.byt e = some ()) (hu : lk T.str u = some ())
    (hB : ABase st.own e 1 (st.ev x) k cs H') (hy : st.ev y = .fv (.str s)) (h47 : k + s.size ≤ 140737488355328) (hf : Fresh st [(d, .row e 1 (k + s.size) (cs ++ (strFV s).map .fv))]) : OpSem P n ops i st ⟨(d, .osl d) :: st.t, (d, .row e 1 (k + s.size) (cs ++ (strFV s).map .fv)) :: H'⟩ := by
  rintro C a w K Q ⟨h1, h2, σ, Z, hI, ht⟩ hK
  obtain ⟨hlow, hnT, hnH⟩ := hf (d, .row e 1 (k + s.size) (cs ++ (strFV s).map .fv)) (by simp)
  obtain ⟨hut, _⟩ := sliT_spec (tbl_lk hT.sli ht')
  obtain ⟨i', hi1, hi2, hi3, hi4⟩ := bytT_spec (tbl_lk hT.byt hbt)
  have hus := strT_spec (tbl_lk hT.str hu)
  have hyv : a.eval y = .string s := by have := ev_rep ht y; rw [hy] at this; exact this.1
  have hbase : ∃ v xs, a.eval x = v ∧ rowZ w e 1 v k xs ∧ AV.RepL σ Z w cs xs ∧ AV.refsL d cs = false ∧ (∀ b, blk v = some b → (C.O0 b ∨ C.w0.heap.size ≤ b) ∧ ¬ Z b) ∧ (∀ i x, lk H' i = some x → lk st.own i = some x ∧ ∀ b, blk (σ i) = some b → some b ≠ blk v) := by
    have hxr := ev_rep ht x
    generalize st.ev x = ax at hB hxr
    cases hB with
    | nil =>
      refine ⟨.slice none 0 0, [], hxr, ⟨by simp, .inl ⟨rfl, none, rfl⟩⟩, trivial, rfl, ?_, ?_⟩
      · intro b hb
        cases hb
      · intro i x hi
        exact ⟨hi, fun b _ h => by cases h⟩
    | @own g _ _ _ hg' hrm =>
      obtain ⟨hv, _⟩ := hxr
      obtain ⟨xs, ho1, ho2⟩ := hI.has g _ hg'
      refine ⟨σ g, xs, hv, ho1, ho2, hnH _ (.row e 1 k cs) hg', fun b hb => ?_, fun i x hi => ?_⟩
      · have := hI.mine g _ b hg' hb
        exact ⟨this.1, this.2.1⟩
      · obtain ⟨h1, h2⟩ := hrm.lk i x hi
        exact ⟨h2, fun b hb e' => h1 (hI.inj i g x _ b h2 hg' hb e'.symm)⟩
  obtain ⟨v, xs, hxv, hown, hcr, hcref, hmine, hsub⟩ := hbase
  obtain ⟨v', w', hrun, hown', hgr, hdr, hbv⟩ := run_appS (P := P) w (ty := o.type) hut hus hi1 hi2 hi3 hi4 s (by unfold maxLen; omega) h47 hown
  unfold wpOp
  simp only [ho]
  rw [if_pos (by simp [Region.wanted, hg])]
  refine .inl (wp_val (v := v') (w' := w') (by simp [execOp, hop, resolve, invoke, builtin, hxv, hyv, hrun]) ?_)
  have hkeep : Keeps Z w w' := fun b hb => hgr.block b (hI.zlt b hb) (fun e => (hmine b e.symm).2 hb)
  have hv' : ∃ A n c, v' = .slice A n c := by
    rcases hown'.2 with ⟨_, A, e⟩ | ⟨_, _, _, e, _⟩ <;> exact ⟨_, _, _, e⟩
  have hrefs : AV.refsL d (cs ++ (strFV s).map .fv) = false := refsL_append hcref (refsL_fv _)
  have hrep : AV.RepL (upd σ d v') Z w' (cs ++ (strFV s).map .fv) (xs ++ Go.Lib.strCells s) := AV.RepL.mono hkeep (fun _ h => h) (refsL_upd v' hrefs) (hcr.append (strFV_rep s))
  obtain ⟨hI', _⟩ := hI.append (d := d) (v' := v') (ob := .row e 1 (k + s.size) (cs ++ (strFV s).map .fv)) hlow hnH hsub hmine hgr hdr hbv ⟨_, hown', hrep⟩
  apply hK
  refine ⟨(put_defers ..).trans h1, by simp [Act.put, hd, h2], _, Z, hI', ?_⟩
  simp only [Act.put, hd]
  refine Temps.put (ht.mono hkeep (fun _ h => h) (fun i a hi => refs_upd v' (hnT _ _ hi))) (by omega) ⟨by rw [upd_hit], hv'⟩
theorem OpSem.eqv {s s1 s2 : St} (h : OpSem P n ops i s s1) (he : Eqv s1 s2) : OpSem P n ops i s s2 := fun C a w K Q hr hK => h C a w K Q hr fun a' w' hr' => hK a' w' (he.rel hr')
theorem hNone (N : List Nat) (g : Nat) : lk (N.map fun g => (g, (none : Option OB))) g = if g ∈ N then some none else none := by
  induction N with
  | nil => simp [lk]
  | cons a N ih =>
    simp only [List.map_cons, lk_cons, ih]
    by_cases h : a = g
    · subst h; simp
    · simp [h, Ne.symm h]
theorem Step.appS {t u e k : Nat} {s : ByteArray} {x y : Operand} {cs : List AV} {H' : Own} (ho : ops[i]? = some o) (hg : o.guard = none) (hd : o.dst = some d) (hn : d < n) (hop : o.op = .call { callee := .builtin .append, args := #[x, y], argTypes := #[t, u] }) (ht' : lk T.sli t = some (e, 1, 1)) (hbt : lk T.byt e = some ()) (hu : lk T.str u = some ())
    (hB : ABase st.own e 1 (st.ev x) k cs H') (hy : st.ev y = .fv (.str s)) (h47 : k + s.size ≤ 140737488355328) (hf : Fresh st [(d, .row e 1 (k + s.size) (cs ++ (strFV s).map .fv))]) :
    Step P T n ops i ⟨baseN (st.ev x), d :: baseN (st.ev x), [d]⟩ st ⟨(d, .osl d) :: st.t, (d, .row e 1 (k + s.size) (cs ++ (strFV s).map .fv)) :: H'⟩ := by
  intro hT
  obtain ⟨hlow, hnT, hnH⟩ := hf (d, .row e 1 (k + s.size) (cs ++ (strFV s).map .fv)) (by simp)
  have hbase : ∀ s2 : St, s2.ev x = st.ev x → (∀ g ∈ baseN (st.ev x), lk s2.own g = lk st.own g) → ABase s2.own e 1 (s2.ev x) k cs (appD ((baseN (st.ev x)).map fun g => (g, none)) s2.own) := by
    intro s2 hx hl
    rw [hx]
    generalize st.ev x = ax at hB hl
    cases hB with
    | nil => exact .nil
    | @own g _ _ _ hg _ => exact .own ((hl g (by simp [baseN])).trans hg) (rmv_p g _)
  have hH' : ∀ g, lk H' g = lk (appD ((baseN (st.ev x)).map fun g => (g, none)) st.own) g := by
    intro g
    generalize st.ev x = ax at hB
    cases hB with
    | nil => rfl
    | @own g0 _ _ _ hg hr =>
      simp only [baseN, List.map_cons, List.map_nil, appD]
      rw [lk_rmv]
      split
      · rename_i e; subst e; exact hr.1
      · rename_i e; exact hr.2 g (Ne.symm e)
  refine ⟨o, some (d, .osl d), (d, some (.row e 1 (k + s.size) (cs ++ (strFV s).map .fv))) :: (baseN (st.ev x)).map fun g => (g, none), ho, ⟨fun s2 s2' e1 e2 hf2 hi => ?_, fun g e1 e2 e3 _ => ?_, fun q hq => (by obtain rfl := Option.some.inj hq; exact hd), fun q z hk => ?_, fun g hg => (by simp at hg; simp [hg])⟩, fun g hg => ?_, ⟨fun _ => rfl, fun g => ?_⟩⟩
  · have he := ev_looks (st := st) (st' := s2) e1
    rw [hop] at he
    have hx := he x (by simp [Op.operands, Call.operands])
    have hy' := he y (by simp [Op.operands, Call.operands])
    refine (appS_sem hT ho hg hd hn hop ht' hbt hu (hbase s2 hx e2) (hy'.trans hy) h47 (fun p hp => by simp at hp; subst hp; exact ⟨hlow, hf2 d (by simp)⟩)).eqv ⟨fun j => hi.1 j, fun g => ?_⟩
    rw [hi.2, eff_cons, lk_cons, lk_app]
  · have h13 := ev_looks_refs e1
    rw [hop] at h13
    have hx := h13 x (by simp [Op.operands, Call.operands])
    refine ⟨fun q hq => ?_, fun q ob hk => ?_⟩
    · obtain rfl := Option.some.inj hq
      simp only [AV.refs]
      cases e : Nat.beq d g with
      | false => rfl
      | true => exact absurd (Nat.eq_of_beq_eq_true e) (by intro e; subst e; simp at e3)
    · rw [lk_cons, hNone] at hk
      split at hk
      · simp only [Option.some.injEq] at hk
        subst hk
        refine refsL_append ?_ (refsL_fv _)
        generalize st.ev x = ax at hB hx e2
        cases hB with
        | nil => rfl
        | @own g0 _ _ _ hg _ => exact e2 g0 (by simp [baseN]) _ hg
      · split at hk <;> simp at hk
  · rw [lk_cons, hNone] at hk
    split at hk
    · rename_i e; subst e; simp
    · split at hk
      · rename_i h; simp [h]
      · cases hk
  · simp at hg
    subst hg
    exact ⟨hnT, hnH⟩
  · show lk ((d, _) :: H') g = _
    rw [eff_cons, lk_cons, hH', lk_app]

theorem Ops.appS {l : List Oper} {fps : List Fp} {K : St → Prop} {t : List (Nat × AV)} {H H' : Own} {ty u e k : Nat} {s : ByteArray} {x y : Operand} {ax : AV} {cs : List AV} (hg : o.guard = none) (hd : o.dst = some d) (hn : Nat.blt d n = true) (hop : o.op = .call { callee := .builtin .append, args := #[x, y], argTypes := #[ty, u] }) (hty : lk T.sli ty = some (e, 1, 1)) (hbt : lk T.byt e = some ()) (hu : lk T.str u = some ())
    (hx : evO t x = some ax) (hy : evO t y = some (.fv (.str s))) (hB : ABase H e 1 ax k cs H') (h47 : k + s.size ≤ 140737488355328) (hf : freshB ⟨t, H⟩ [(d, .row e 1 (k + s.size) (cs ++ (strFV s).map .fv))] = true) (hK : OpsL P T n ops (i + 1) l fps K ⟨(d, .osl d) :: t, (d, .row e 1 (k + s.size) (cs ++ (strFV s).map .fv)) :: H'⟩) :
    OpsL P T n ops i (o :: l) (⟨baseN ax, d :: baseN ax, [d]⟩ :: fps) K ⟨t, H⟩ :=
  ⟨_, _, rfl, fun ho => ⟨_, by
    have e1 := evO_ev (st := ⟨t, H⟩) hx
    have := Step.appS (P := P) (T := T) (n := n) (st := ⟨t, H⟩) (d := d) (k := k) (cs := cs) ho hg hd (by simpa [Nat.blt_eq] using hn) hop hty hbt hu (by rw [e1]; exact hB) (evO_ev (st := ⟨t, H⟩) hy) h47 (freshB_mem hf)
    rw [e1] at this
    exact this, hK.out⟩⟩
end
theorem FunO.body {P : Program} {T : Tbl} {f : FuncId} {fn : Func} {c : Code} {n : Nat} {args : List AV} {own own' : Own} {r : AV} (hT : T.Ok P) (hf : P.funcs[f]? = some fn) (hb : fn.body = some c) (hen : enterB P f = true) (hn : fn.ntmps = n) (hargs : Nat.ble args.length n = true) {rvs : List ResultVar} (hrv : fn.results.toList = rvs)
    (h : WP P n c (Post T rvs fun r' o' => r' = r ∧ o' = own') ⟨argT 0 args, own⟩) : FunO P f args own r own' := Triple.body hT hf hb hen hn hargs hrv h
theorem Post.ofO {T : Tbl} {rvs : List ResultVar} {r : AV} {own' : Own} {e : Exit} {s s' : St} {rs : List AV} (he : e = .ret ∨ e = .normal) (hle : St.Le s s') (h1 : retL T s' rvs = some rs) (h2 : retA rs = r) (h3 : s'.own = own') : Post T rvs (fun r' o' => r' = r ∧ o' = own') e s := by
  rcases he with rfl | rfl <;> exact ⟨s', hle, rs, h1, h2, h3⟩
theorem FunO.froz {P : Program} {f : FuncId} {args : List AV} {own' : Own} {r r' : AV} (F : List Nat) (h : FunO P f args [] r own') (hr : AV.To [] F own' r r') : Fun P f args r' := by
  refine ⟨h.1, fun σ Z w vs hI hrep => (h.2 σ Z w vs hI hrep).mono ?_⟩
  rintro e w' ⟨v, r0, own0, σ', Z', rfl, ⟨rfl, rfl⟩, hI', hr'⟩
  have hv := hr.rep hI' hr'
  refine ⟨v, r', [], _, _, rfl, ⟨rfl, rfl⟩, ⟨hI'.os, hI'.tape, hI'.output, hI'.size, hI'.drawn, hI'.frame, fun b hb => ?_, fun b hb => .inl (hI'.zold b hb), fun b hb => ?_, fun g ob h => by simp [lk] at h, fun g ob b h => by simp [lk] at h, fun g g' ob ob' b h => by simp [lk] at h, fun g hg => hI'.keep g hg⟩, hv⟩
  · rcases hb with h | ⟨g, ob, _, hg, hb⟩
    · exact hI'.zlt b h
    · exact (hI'.mine g ob b hg hb).2.2
  · rcases hb with h | ⟨g, ob, _, hg, hb⟩
    · exact hI'.znew b h
    · exact .inr (hI'.mine g ob b hg hb).1
def fillS (place : Nat → Option (Nat × Nat)) : List AV → List (Nat × List AV) → Option (List AV)
  | cs, [] => some cs
  | cs, (i, us) :: rest => match place i with
    | some (off, size) => match Nat.beq us.length size with
      | true => match setC cs off us with
        | some cs' => fillS place cs' rest
        | none => none
      | false => none
    | none => none
theorem fillS_eq {place : Nat → Option (Nat × Nat)} : ∀ {l : List (Nat × List AV)} {cs r : List AV}, fillS place cs l = some r → fillA place cs l = some r
  | [], _, _, h => h
  | (i, us) :: rest, cs, r, h => by
    unfold fillS at h
    unfold fillA
    split at h
    · rename_i off size hp
      split at h
      · rename_i hb
        split at h
        · rename_i cs' hs
          obtain ⟨h1, h2⟩ := setC_eq hs
          have e := Nat.eq_of_beq_eq_true hb
          rw [hp]
          dsimp only
          rw [hb, Nat.ble_eq_true_of_le (show off + size ≤ cs.length by omega)]
          dsimp only
          rw [← e, ← h2]
          exact fillS_eq h
        · cases h
      · cases h
    · cases h
section
variable {T : Tbl} {ρ : Operand → AV} {H : Own} {d : Nat}
theorem Eff.buildS {t : Nat} {parts : Array (Nat × Operand)} {zs cs : List AV} {pl : List (Nat × Nat)} {us : List (Nat × List AV)} (h1 : lk T.zero t = some zs) (h2 : lk T.plc t = some pl) (h3 : cellsL ρ parts.toList = some us) (h4 : fillS (pl[·]?) zs us = some cs) : Eff T ρ H d (.build t parts) (.agg cs) [] :=
  .build h1 h2 h3 (fillS_eq h4)
theorem Eff.bsliceS {t n e s b : Nat} {parts : Array (Nat × Operand)} {zs cs : List AV} {us : List (Nat × List AV)} (h1 : lk T.sli t = some (e, s, b)) (h2 : lk T.zero e = some zs) (h3 : cellsL ρ parts.toList = some us) (h4 : fillS (fun i => some (i * s, s)) ((List.replicate n zs).flatten) us = some cs) (h5 : Nat.ble (n * s) 100000 = true) : Eff T ρ H d (.buildSlice t n parts) (.osl d) [(d, .row e s n cs)] :=
  .bslice h1 h2 h3 (fillS_eq h4) h5
theorem Eff.bsliceFS {t n e s b : Nat} {parts : Array (Nat × Operand)} {zs cs : List AV} {us : List (Nat × List AV)} {fs : List FV} (h1 : lk T.sli t = some (e, s, b)) (h2 : lk T.zero e = some zs) (h3 : cellsL ρ parts.toList = some us) (h4 : fillS (fun i => some (i * s, s)) ((List.replicate n zs).flatten) us = some cs) (h5 : Nat.ble (n * s) 100000 = true) (h6 : plainL cs = some fs) : Eff T ρ H d (.buildSlice t n parts) (.fv (.sl fs n)) [] :=
  .bsliceF h1 h2 h3 (fillS_eq h4) h5 h6
end
section
variable {P : Program} {T : Tbl} {n i : Nat} {ops : Array Oper} {st : St} {o : Oper} {d : Nat}
theorem Step.own1 {g : Nat} {ob ob' : OB} {p : Option (Nat × AV)} {own' : Own} (ho : ops[i]? = some o) (hd : ∀ q, p = some q → o.dst = some q.1) (hg : lk st.own g = some ob)
    (hs : T.Ok P → ∀ s2 : St, (∀ t ∈ o.looksAt ops, lk s2.t t = lk st.t t) → lk s2.own g = some ob → OpSem P n ops i s2 ⟨p.toList ++ s2.t, (g, ob') :: s2.own⟩)
    (hr : T.Ok P → ∀ k, k ≠ g → (∀ t ∈ o.looksAt ops, ∀ a, lk st.t t = some a → a.refs k = false) → AV.refsL k ob.cells = false → (∀ q, p = some q → q.2.refs k = false) ∧ AV.refsL k ob'.cells = false)
    (he : ∀ i, lk own' i = lk ((g, ob') :: st.own) i) : Step P T n ops i ⟨[g], [g], []⟩ st ⟨p.toList ++ st.t, own'⟩ := by
  intro hT
  refine ⟨o, p, [(g, some ob')], ho, ⟨fun s2 s2' e1 e2 hf2 hi => ?_, fun k e1 e2 e3 e4 => ?_, hd, fun k x hk => ?_, fun g hg => (by cases hg)⟩, fun g hg => (by cases hg), ⟨fun _ => rfl, fun k => ?_⟩⟩
  · refine (hs hT s2 e1 ((e2 g (by simp)).trans hg)).eqv ⟨fun j => hi.1 j, fun k => ?_⟩
    rw [hi.2, eff_cons, lk_cons]
    rfl
  · have := hr hT k (by rintro rfl; exact e4 (by simp)) e1 (e2 g (by simp) ob hg)
    refine ⟨this.1, fun k' ob2 hk => ?_⟩
    rw [lk_cons] at hk
    split at hk
    · simp only [Option.some.injEq] at hk
      subst hk
      exact this.2
    · cases hk
  · rw [lk_cons] at hk
    split at hk
    · rename_i e; subst e; simp
    · cases hk
  · show lk own' k = _
    rw [he, eff_cons, lk_cons]
    rfl
theorem Step.read1 {g : Nat} {ob : OB} {r : AV} (ho : ops[i]? = some o) (hd : o.dst = some d) (hg : lk st.own g = some ob)
    (hs : T.Ok P → ∀ s2 : St, (∀ t ∈ o.looksAt ops, lk s2.t t = lk st.t t) → lk s2.own g = some ob → OpSem P n ops i s2 ⟨(d, r) :: s2.t, s2.own⟩)
    (hr : ∀ k, k ≠ g → r.refs k = false) : Step P T n ops i ⟨[g], [], []⟩ st ⟨(d, r) :: st.t, st.own⟩ := by
  intro hT
  refine ⟨o, some (d, r), [], ho, ⟨fun s2 s2' e1 e2 hf2 hi => ?_, fun k e1 e2 e3 e4 => ⟨fun q hq => ?_, fun k' ob2 hk => (by cases hk)⟩, fun q hq => (by obtain rfl := Option.some.inj hq; exact hd), fun k x hk => (by cases hk), fun g hg => (by cases hg)⟩, fun g hg => (by cases hg), ⟨fun _ => rfl, fun k => rfl⟩⟩
  · exact (hs hT s2 e1 ((e2 g (by simp)).trans hg)).eqv ⟨fun j => hi.1 j, fun k => hi.2 k⟩
  · obtain rfl := Option.some.inj hq
    exact hr k (by rintro rfl; exact e4 (by simp))

theorem onesB_app : ∀ {as bs : List AV}, onesB as = true → onesB bs = true → onesB (as ++ bs) = true
  | [], _, _, h => h
  | a :: as, bs, h, h' => by
    simp only [onesB, Bool.and_eq_true] at h
    simp only [List.cons_append, onesB, Bool.and_eq_true]
    exact ⟨h.1, onesB_app h.2 h'⟩
theorem onesB_rep {zs : List AV} (h : onesB zs = true) : ∀ m, onesB ((List.replicate m zs).flatten) = true
  | 0 => rfl
  | m + 1 => by
    rw [List.replicate_succ, List.flatten_cons]
    exact onesB_app h (onesB_rep h m)
theorem onesB_drop : ∀ (m : Nat) {as : List AV}, onesB as = true → onesB (as.drop m) = true
  | 0, _, h => h
  | m + 1, [], h => h
  | m + 1, a :: as, h => by
    simp only [onesB, Bool.and_eq_true] at h
    exact onesB_drop m h.2
theorem onesB_take : ∀ (m : Nat) {as : List AV}, onesB as = true → onesB (as.take m) = true
  | 0, _, _ => rfl
  | m + 1, [], h => h
  | m + 1, a :: as, h => by
    simp only [onesB, Bool.and_eq_true] at h
    simp only [List.take_succ_cons, onesB, Bool.and_eq_true]
    exact ⟨h.1, onesB_take m h.2⟩
theorem osb_val {C : Ctx} {own : Own} {σ : Nat → Value} {Z : Nat → Prop} {w : World} (hI : Inv C own σ Z w) {g lo m q s N : Nat} {cs : List AV} {v : Value} (hg : lk own g = some (.row q s N cs)) (hv : (AV.osb g lo m s).Rep σ Z w v) :
    ∃ A c, v = .slice A m c ∧ m ≤ c ∧ N ≤ lo + c ∧ (0 < c → ∃ b, A = some ⟨b, lo * s, none⟩ ∧ blk (σ g) = some b) := by
  obtain ⟨A, c, A0, N', cap, q1, q2, q3, q4, q5, q6⟩ := hv
  have hN : N ≤ cap := by
    obtain ⟨xs, ho1, _⟩ := hI.has g _ hg
    rcases ho1.2 with ⟨e, A, e'⟩ | ⟨g', cap', cur, e, _, _, e2, _⟩
    · omega
    · rw [q2] at e; injection e with _ _ e3; omega
  refine ⟨A, c, q1, q4, by omega, fun h => ?_⟩
  obtain ⟨b, r1, r2⟩ := q6 h
  exact ⟨b, r2, by rw [q2, r1]; exact blk_slice (by omega)⟩

theorem clear_sem {t e s b g lo m q N : Nat} {x : Operand} {zs cs cs' : List AV} (hT : T.Ok P) (ho : ops[i]? = some o) (hg : o.guard = none) (hd : o.dst = none) (hop : o.op = .call { callee := .builtin .clear, args := #[x], argTypes := #[t] }) (hty : lk T.sli t = some (e, s, b)) (hz : lk T.zero e = some zs) (h1 : onesB zs = true)
    (hx : st.ev x = .osb g lo m s) (hob : lk st.own g = some (.row q s N cs)) (hset : setC cs (lo * s) ((List.replicate m zs).flatten) = some cs') : OpSem P n ops i st ⟨st.t, (g, .row q s N cs') :: st.own⟩ := by
  rintro C a w K Q ⟨h1', h2, σ, Z, hI, ht⟩ hK
  have hv := ev_rep ht x
  rw [hx] at hv
  obtain ⟨A, c, hv, hmc, _, hA⟩ := osb_val hI hob hv
  obtain ⟨hu, hs, i', z', hi1, hi2, hi3, hi4, hi5⟩ := sliT_spec (tbl_lk hT.sli hty)
  have h4' := tbl_lk hT.zero hz
  have hzr : AV.RepL σ Z w zs z'.cells.toList := by
    unfold zeroT at h4'
    simp only [hi1, hi2, Option.some.injEq] at h4'
    exact h4' ▸ liftZ_repL _ _ _ _
  have hz0 : ∀ k, AV.RepL σ Z w ((List.replicate k zs).flatten) ((List.replicate k z'.cells.toList).flatten) := fun k => by
    induction k with
    | zero => trivial
    | succ k ih => simpa [List.replicate_succ] using hzr.append ih
  have hzc : (Builtin.zeroCells z'.cells m).toList = (List.replicate m z'.cells.toList).flatten := by
    unfold Builtin.zeroCells
    rw [range_cells z'.cells m z'.cells.size rfl]
  have hzv : ∀ w, (zeroValue e).run P w = .ok z' w := fun w => by simp [zeroValue, typeInfo, hi1, hi2]
  have key : ∃ w', (Builtin.clear_ #[t] o.type #[.slice A m c]).run P w = .ok (.tuple #[]) w' ∧ Inv C ((g, .row q s N cs') :: st.own) σ Z w' ∧ Keeps Z w w' := by
    cases m with
    | zero =>
      have hcs : cs' = cs := by
        obtain ⟨_, e⟩ := setC_eq hset
        rw [e]
        simp
      subst hcs
      refine ⟨w, ?_, hI.same fun k => ?_, fun _ _ => rfl⟩
      · cases A <;> simp [Builtin.clear_, run_underlying hu]
      · rw [lk_cons]
        split
        · rename_i e; subst e; exact hob.symm
        · rfl
    | succ m =>
      obtain ⟨b', rfl, hb⟩ := hA (by omega)
      obtain ⟨w', hst, hI', hk⟩ := hI.store (P := P) hob hb hset (hz0 (m + 1)) (ones_rep (onesB_rep h1 (m + 1)) (hz0 (m + 1)))
      refine ⟨w', ?_, hI', hk⟩
      rw [← hzc] at hst
      simp [Builtin.clear_, run_underlying hu, hzv, hst]
  obtain ⟨w', hrun, hI', hk⟩ := key
  unfold wpOp
  simp only [ho]
  rw [if_pos (by simp [Region.wanted, hg])]
  refine .inl (wp_val (v := .tuple #[]) (w' := w') (by simp [execOp, hop, resolve, invoke, builtin, hv, hrun]) ?_)
  apply hK
  refine ⟨(put_defers ..).trans h1', by simp [Act.put, hd, h2], σ, Z, hI', ?_⟩
  simp only [Act.put, hd]
  exact ht.mono hk (fun _ h => h) (fun _ _ _ _ _ => rfl)

theorem appB_sem {t e s b g lo k j m q N : Nat} {x y : Operand} {cs cs' : List AV} (hT : T.Ok P) (ho : ops[i]? = some o) (hg : o.guard = none) (hd : o.dst = some d) (hn : d < n) (hop : o.op = .call { callee := .builtin .append, args := #[x, y], argTypes := #[t, t] }) (hty : lk T.sli t = some (e, s, b))
    (hx : st.ev x = .osb g lo k s) (hy : st.ev y = .osb g j m s) (hob : lk st.own g = some (.row q s N cs)) (h1 : onesB cs = true) (hroom : lo + k + m ≤ N) (hj : j + m ≤ N) (hset : setC cs ((lo + k) * s) ((cs.drop (j * s)).take (m * s)) = some cs') :
    OpSem P n ops i st ⟨(d, .osb g lo (k + m) s) :: st.t, (g, .row q s N cs') :: st.own⟩ := by
  rintro C a w K Q ⟨h1', h2, σ, Z, hI, ht⟩ hK
  have hv := ev_rep ht x
  rw [hx] at hv
  have hv0 := hv
  have hyv := ev_rep ht y
  rw [hy] at hyv
  obtain ⟨A, c, hv, hmc, hNc, hA⟩ := osb_val hI hob hv
  obtain ⟨B, c2, hyv, hmc2, hNc2, hB⟩ := osb_val hI hob hyv
  obtain ⟨hu, hs, i', z', hi1, hi2, hi3, hi4, hi5⟩ := sliT_spec (tbl_lk hT.sli hty)
  have hrep : ∀ w', Keeps Z w w' → (AV.osb g lo (k + m) s).Rep σ Z w' (.slice A (k + m) c) := by
    intro w' _
    obtain ⟨A', c', A0, N', cap, q1, q2, q3, q4, q5, q6⟩ := hv0
    rw [hv] at q1
    injection q1 with e1 e2 e3
    subst e1 e3
    exact ⟨A, c, A0, N', cap, rfl, q2, q3, by omega, q5, q6⟩
  have key : ∃ w', (Builtin.append_ #[t, t] o.type #[.slice A k c, .slice B m c2]).run P w = .ok (.slice A (k + m) c) w' ∧ Inv C ((g, .row q s N cs') :: st.own) σ Z w' ∧ Keeps Z w w' := by
    rcases Nat.eq_zero_or_pos m with rfl | hm
    · have hcs : cs' = cs := by
        obtain ⟨_, e⟩ := setC_eq hset
        rw [e]
        simp
      subst hcs
      have hfc : ∀ w, (Builtin.firstCells i'.size 0 (.slice B 0 c2)).run P w = .ok #[] w := fun w => by cases B <;> simp [Builtin.firstCells, loadCells, loadCellsFrom]
      refine ⟨w, ?_, hI.same fun k => ?_, fun _ _ => rfl⟩
      · cases A <;> simp [Builtin.append_, run_underlying hu, sizeOf, typeInfo, hi1, Builtin.lenOf, hfc, hmc, storeCells]
      · rw [lk_cons]
        split
        · rename_i e; subst e; exact hob.symm
        · rfl
    · obtain ⟨b', rfl, hb⟩ := hA (by omega)
      obtain ⟨b2, rfl, hb2⟩ := hB (by omega)
      obtain rfl : b2 = b' := Option.some.inj (hb2.symm.trans hb)
      obtain ⟨us, hus, hcell⟩ := ob_cells (hI.has g _ hob) hb
      simp only [OB.cells] at hus
      have hcl : cs.length = N * s := by
        obtain ⟨xs, ho1, hr1⟩ := hI.has g _ hob
        rw [← hr1.length]
        exact ho1.1
      have hul := hus.length
      have hns : (j + m) * s ≤ N * s := Nat.mul_le_mul_right s hj
      have hnr : AV.RepL σ Z w ((cs.drop (j * s)).take (m * s)) ((us.drop (j * s)).take (m * s)) := (hus.drop _).take _
      obtain ⟨w', hst, hI', hk⟩ := hI.store (P := P) hob hb hset hnr (ones_rep (onesB_take _ (onesB_drop _ h1)) hnr)
      refine ⟨w', ?_, hI', hk⟩
      have hl : ((us.drop (j * s)).take (m * s)).length = m * i'.size := by
        rw [List.length_take, List.length_drop, hul, hcl, hi3]
        rw [Nat.add_mul] at hns
        omega
      have hfc := run_firstCells_some (P := P) w i'.size m ⟨b2, j * s, none⟩ m c2 ((us.drop (j * s)).take (m * s)) hl (fun t u hu => by
        rw [Addr.add_lit]
        rw [List.getElem?_take] at hu
        split at hu
        · rw [List.getElem?_drop] at hu
          exact hcell _ _ hu
        · cases hu)
      have hroom' : k + m ≤ c := by omega
      rw [Nat.add_mul, ← hi3] at hst
      rw [← hi3] at hfc ⊢
      simp [Builtin.append_, run_underlying hu, sizeOf, typeInfo, hi1, Builtin.lenOf, hroom', hfc, Addr.add_lit, hst]
  obtain ⟨w', hrun, hI', hk⟩ := key
  unfold wpOp
  simp only [ho]
  rw [if_pos (by simp [Region.wanted, hg])]
  refine .inl (wp_val (v := .slice A (k + m) c) (w' := w') (by simp [execOp, hop, resolve, invoke, builtin, hv, hyv, hrun]) ?_)
  apply hK
  refine ⟨(put_defers ..).trans h1', by simp [Act.put, hd, h2], σ, Z, hI', ?_⟩
  simp only [Act.put, hd]
  exact Temps.put (ht.mono hk (fun _ h => h) (fun _ _ _ _ _ => rfl)) (by omega) (hrep w' hk)

theorem sl3_sem {t e s b g q N : Nat} {x lo hi mx : Operand} {l h M : Nat} {k1 k2 k3 : IntKind} {cs : List AV} (hT : T.Ok P) (ho : ops[i]? = some o) (hg : o.guard = none) (hd : o.dst = some d) (hn : d < n) (hop : o.op = .slice t x (some lo) (some hi) (some mx)) (hty : lk T.sli t = some (e, s, b))
    (hx : st.ev x = .osl g) (hob : lk st.own g = some (.row q s N cs)) (hlo : st.ev lo = .fv (.int k1 l)) (hhi : st.ev hi = .fv (.int k2 h)) (hmx : st.ev mx = .fv (.int k3 M)) (h1 : l ≤ h) (h2 : h ≤ M) (h3 : M ≤ N) : OpSem P n ops i st ⟨(d, .any) :: st.t, st.own⟩ := by
  rintro C a w K Q ⟨h1', h2', σ, Z, hI, ht⟩ hK
  have hv := ev_rep ht x
  rw [hx] at hv
  obtain ⟨A, c, A0, N', cap, hv, _, _, hc, _⟩ := row_slice (hI.has g _ hob) hv
  have e1 := val_int (hlo ▸ ev_rep ht lo)
  have e2 := val_int (hhi ▸ ev_rep ht hi)
  have e3 := val_int (hmx ▸ ev_rep ht mx)
  obtain ⟨hu, hs, i', z', hi1, hi2, hi3, hi4, hi5⟩ := sliT_spec (tbl_lk hT.sli hty)
  have p1 : (M : Int) ≤ (c : Int) := by omega
  have p2 : (h : Int) ≤ (M : Int) := by omega
  have p3 : (l : Int) ≤ (h : Int) := by omega
  have hrun : (execOp a.eval o).run P w = .ok (.value (.slice (if M = l then A else A.map (·.add (l * s))) (h - l) (M - l))) w := by
    simp [execOp, hop, hv, e1, e2, e3, Instr.sliceAt, Instr.slice, run_underlying hu, Instr.sliceBounds, run_sliceBound, p1, p2, p3, sizeOf, typeInfo, hi1, hi3]
  unfold wpOp
  simp only [ho]
  rw [if_pos (by simp [Region.wanted, hg])]
  refine .inl (wp_val (w' := w) hrun ?_)
  apply hK
  refine ⟨(put_defers ..).trans h1', by simp [Act.put, hd, h2'], σ, Z, hI, ?_⟩
  simp only [Act.put, hd]
  exact ht.put_any _
end

section
variable {P : Program} {T : Tbl} {n i : Nat} {ops : Array Oper} {l : List Oper} {fps : List Fp} {K : St → Prop} {tt : List (Nat × AV)} {H H' : Own} {o : Oper} {d : Nat}
theorem ev_at {st s2 : St} {x : Operand} (e1 : ∀ t ∈ o.looksAt ops, lk s2.t t = lk st.t t) (hm : x ∈ o.op.operands) : s2.ev x = st.ev x := ev_looks e1 x hm
theorem Ops.clr {t e s b g lo m q N : Nat} {x : Operand} {zs cs cs' : List AV} (hg : o.guard = none) (hd : o.dst = none) (hop : o.op = .call { callee := .builtin .clear, args := #[x], argTypes := #[t] }) (hty : lk T.sli t = some (e, s, b)) (hz : lk T.zero e = some zs) (h1 : onesB zs = true)
    (hx : evO tt x = some (.osb g lo m s)) (hob : lk H g = some (.row q s N cs)) (hset : setC cs (lo * s) ((List.replicate m zs).flatten) = some cs') (hrep : Repl g (.row q s N cs) (.row q s N cs') H H')
    (hK : OpsL P T n ops (i + 1) l fps K ⟨tt, H'⟩) : OpsL P T n ops i (o :: l) (⟨[g], [g], []⟩ :: fps) K ⟨tt, H⟩ :=
  ⟨_, _, rfl, fun ho => ⟨_, Step.own1 (p := none) (ob := .row q s N cs) (ob' := .row q s N cs') ho (fun q hq => by cases hq) hob
    (fun hT s2 e1 hg2 => clear_sem hT ho hg hd hop hty hz h1 ((ev_at e1 (by rw [hop]; simp [Op.operands, Call.operands])).trans (evO_ev (st := ⟨tt, H⟩) hx)) hg2 hset)
    (fun hT k hk _ hc => ⟨fun q hq => (by cases hq), by
      obtain ⟨_, e⟩ := setC_eq hset
      simp only [OB.cells] at hc ⊢
      rw [e]
      exact refsL_append (refsL_append (refsL_take _ hc) (refsL_flatten (zeroT_refs (tbl_lk hT.zero hz)) m)) (refsL_drop _ hc)⟩)
    hrep.lk.2, hK.out⟩⟩
theorem Ops.appB {t e s b g lo k j m q N : Nat} {x y : Operand} {cs cs' : List AV} (hg : o.guard = none) (hd : o.dst = some d) (hn : Nat.blt d n = true) (hop : o.op = .call { callee := .builtin .append, args := #[x, y], argTypes := #[t, t] }) (hty : lk T.sli t = some (e, s, b))
    (hx : evO tt x = some (.osb g lo k s)) (hy : evO tt y = some (.osb g j m s)) (hob : lk H g = some (.row q s N cs)) (h1 : onesB cs = true) (hroom : lo + k + m ≤ N) (hj : j + m ≤ N) (hset : setC cs ((lo + k) * s) ((cs.drop (j * s)).take (m * s)) = some cs') (hrep : Repl g (.row q s N cs) (.row q s N cs') H H')
    (hK : OpsL P T n ops (i + 1) l fps K ⟨(d, .osb g lo (k + m) s) :: tt, H'⟩) : OpsL P T n ops i (o :: l) (⟨[g], [g], []⟩ :: fps) K ⟨tt, H⟩ :=
  ⟨_, _, rfl, fun ho => ⟨_, Step.own1 (p := some (d, .osb g lo (k + m) s)) (ob := .row q s N cs) (ob' := .row q s N cs') ho (fun q hq => by obtain rfl := Option.some.inj hq; exact hd) hob
    (fun hT s2 e1 hg2 => appB_sem hT ho hg hd (by simpa [Nat.blt_eq] using hn) hop hty ((ev_at e1 (by rw [hop]; simp [Op.operands, Call.operands])).trans (evO_ev (st := ⟨tt, H⟩) hx)) ((ev_at e1 (by rw [hop]; simp [Op.operands, Call.operands])).trans (evO_ev (st := ⟨tt, H⟩) hy)) hg2 h1 hroom hj hset)
    (fun hT k hk _ hc => ⟨fun q hq => by
      obtain rfl := Option.some.inj hq
      simp only [AV.refs]
      cases e : Nat.beq g k with
      | false => rfl
      | true => exact absurd (Nat.eq_of_beq_eq_true e).symm hk, by
      obtain ⟨_, e⟩ := setC_eq hset
      simp only [OB.cells] at hc ⊢
      rw [e]
      exact refsL_append (refsL_append (refsL_take _ hc) (refsL_take _ (refsL_drop _ hc))) (refsL_drop _ hc)⟩)
    hrep.lk.2, hK.out⟩⟩
theorem Ops.sl3 {t e s b g q N : Nat} {x lo hi mx : Operand} {l' h M : Nat} {k1 k2 k3 : IntKind} {cs : List AV} (hg : o.guard = none) (hd : o.dst = some d) (hn : Nat.blt d n = true) (hop : o.op = .slice t x (some lo) (some hi) (some mx)) (hty : lk T.sli t = some (e, s, b))
    (hx : evO tt x = some (.osl g)) (hob : lk H g = some (.row q s N cs)) (hlo : evO tt lo = some (.fv (.int k1 l'))) (hhi : evO tt hi = some (.fv (.int k2 h))) (hmx : evO tt mx = some (.fv (.int k3 M))) (h1 : l' ≤ h) (h2 : h ≤ M) (h3 : M ≤ N)
    (hK : OpsL P T n ops (i + 1) l fps K ⟨(d, .any) :: tt, H⟩) : OpsL P T n ops i (o :: l) (⟨[g], [], []⟩ :: fps) K ⟨tt, H⟩ :=
  ⟨_, _, rfl, fun ho => ⟨_, Step.read1 (r := .any) (ob := .row q s N cs) ho hd hob
    (fun hT s2 e1 hg2 => sl3_sem hT ho hg hd (by simpa [Nat.blt_eq] using hn) hop hty ((ev_at e1 (by rw [hop]; simp [Op.operands])).trans (evO_ev (st := ⟨tt, H⟩) hx)) hg2 ((ev_at e1 (by rw [hop]; simp [Op.operands])).trans (evO_ev (st := ⟨tt, H⟩) hlo)) ((ev_at e1 (by rw [hop]; simp [Op.operands])).trans (evO_ev (st := ⟨tt, H⟩) hhi)) ((ev_at e1 (by rw [hop]; simp [Op.operands])).trans (evO_ev (st := ⟨tt, H⟩) hmx)) h1 h2 h3)
    (fun _ _ => rfl), hK.out⟩⟩
end

theorem FunO.bodyL {P : Program} {T : Tbl} {f : FuncId} {fn : Func} {c : Code} {n : Nat} {args : List AV} {own own' : Own} {r : AV} (hT : T.Ok P) (hf : P.funcs[f]? = some fn) (hb : fn.body = some c) (hen : enterB P f = true) (hn : fn.ntmps = n) (hargs : Nat.ble args.length n = true) {rvs : List ResultVar} (hrv : fn.results.toList = rvs)
    (h : WP P n c (Post T rvs fun r' o' => r' = r ∧ leH o' own') ⟨argT 0 args, own⟩) : FunO P f args own r own' := by
  have ht := Triple.body (Q := fun r' o' => r' = r ∧ leH o' own') hT hf hb hen hn hargs hrv h
  refine ⟨ht.1, fun σ Z w vs hI hr => (ht.2 σ Z w vs hI hr).mono ?_⟩
  rintro e w' ⟨v, r', o', σ', Z', rfl, ⟨rfl, hle⟩, hI', hr'⟩
  exact ⟨v, r', own', σ', Z', rfl, ⟨rfl, rfl⟩, hI'.le (fun g ob h => leH_lk hle h), hr'⟩
theorem Post.ofL {T : Tbl} {rvs : List ResultVar} {r : AV} {own' : Own} {e : Exit} {s s' : St} {rs : List AV} (he : e = .ret ∨ e = .normal) (hle : St.Le s s') (h1 : retL T s' rvs = some rs) (h2 : retA rs = r) (h3 : leH s'.own own') : Post T rvs (fun r' o' => r' = r ∧ leH o' own') e s := by
  rcases he with rfl | rfl <;> exact ⟨s', hle, rs, h1, h2, h3⟩
theorem AV.To.frzE {φ : List (Nat × Whence)} {F : List Nat} {H : Own} {g e s n n' : Nat} {us : List FV} {cs : List AV} (h : lk H g = some (.row e s n cs)) (hn : n = n') (hc : cs = us.map .fv) (hF : (F.contains g) = true) : AV.To φ F H (.osl g) (.fv (.sl us n')) := by
  subst hn
  exact .frz h hc hF
theorem AV.To.frbE {φ : List (Nat × Whence)} {F : List Nat} {H : Own} {g e s N n n' : Nat} {us vs : List FV} {cs : List AV} (h : lk H g = some (.row e s N cs)) (hn : n = n') (hc : cs.take (n * s) = us.map .fv) (h2 : n ≤ N) (hF : (F.contains g) = true) (hvs : cs = vs.map .fv := by rfl) : AV.To φ F H (.osb g 0 n s) (.fv (.sl us n')) := by
  subst hn
  have h3 := AV.To.frb (φ := φ) (F := F) (H := H) (lo := 0) (n := n) h hvs (by omega) hF
  rw [Nat.zero_mul, List.drop_zero] at h3
  have : vs.take (n * s) = us := by
    rw [hvs, ← List.map_take] at hc
    exact (List.map_inj_right (fun a b h => by injection h)).1 hc
  rwa [this] at h3

section
variable {P : Program} {T : Tbl} {n i : Nat} {ops : Array Oper} {st : St} {o : Oper} {d : Nat}
theorem gst_sem {oj : Oper} {j t : Nat} {want : Bool} {c : Prop} {ag r : AV} {ρ : Operand → AV} (hT : T.Ok P) (ho : ops[i]? = some o) (hg : o.guard = some (j, want)) (hd : o.dst = some d) (hdn : d < n) (hoj : ops[j]? = some oj) (hjt : oj.dst = some t) (htn : t < n) (hb : lk st.t t = some ag) (hgv : GVal want ag c)
    (hE : c → (∀ x ∈ o.op.operands, Und c (st.ev x) (ρ x)) ∧ LEff P T ρ st.own d o.op r []) : OpSem P n ops i st ⟨(d, .whn c r) :: st.t, st.own⟩ := by
  rintro C a w K Q ⟨h1, h2, σ, Z, hI, ht⟩ hK
  have h3 := ht t _ hb
  have hspec := hgv.spec h3
  have hlt : t < a.tmps.size := by omega
  have hval : a.tmps[t]? = some (a.tmps.getD t undef) := by simp [Array.getD, hlt]
  have hy : Region.wanted o (yielded ops a.tmps) = true ↔ c := by
    rw [hspec]
    simp only [Region.wanted, hg, yielded, hoj, hjt, Option.bind_some, hval]
    cases a.tmps.getD t undef <;> simp
  unfold wpOp
  simp only [ho]
  by_cases hc : c
  · rw [if_pos (hy.2 hc)]
    classical
    obtain ⟨hgo, hE⟩ := hE hc
    have hE' : LEff P T (fun x => if x ∈ o.op.operands then ρ x else .any) st.own d o.op r [] := LEff.cut hE
    refine .inl (hE'.sound hT (fun x => ?_) hI (fun p hp => by cases hp) ?_)
    · by_cases hx : x ∈ o.op.operands
      · simp only [hx, if_true]; exact (hgo x hx).1 hc _ _ _ _ (ev_rep ht x)
      · simp only [hx, if_false]; trivial
    intro v w' σ' Z' hI' hz hk hs hrv
    apply hK
    refine ⟨(put_defers ..).trans h1, by simp [Act.put, hd, h2], σ', Z', hI', ?_⟩
    simp only [Act.put, hd]
    exact (temps_mono (A := []) ht hz hk hs (fun p hp => by cases hp)).put (by omega) ⟨fun _ => hrv, fun h => absurd hc h⟩
  · rw [if_neg (fun h => hc (hy.1 h))]
    apply hK
    refine ⟨(put_defers ..).trans h1, by simp [Act.put, hd, h2], σ, Z, hI, ?_⟩
    simp only [Act.put, hd]
    exact ht.put (by omega) ⟨fun h => absurd h hc, fun _ => rfl⟩
theorem Step.read2 {g : Nat} {ob : OB} {r : AV} (ho : ops[i]? = some o) (hd : o.dst = some d) (hg : lk st.own g = some ob)
    (hs : T.Ok P → ∀ s2 : St, (∀ t ∈ o.looksAt ops, lk s2.t t = lk st.t t) → lk s2.own g = some ob → OpSem P n ops i s2 ⟨(d, r) :: s2.t, s2.own⟩)
    (hr : ∀ k, k ≠ g → AV.refsL k ob.cells = false → r.refs k = false) : Step P T n ops i ⟨[g], [], []⟩ st ⟨(d, r) :: st.t, st.own⟩ := by
  intro hT
  refine ⟨o, some (d, r), [], ho, ⟨fun s2 s2' e1 e2 hf2 hi => ?_, fun k e1 e2 e3 e4 => ⟨fun q hq => ?_, fun k' ob2 hk => (by cases hk)⟩, fun q hq => (by obtain rfl := Option.some.inj hq; exact hd), fun k x hk => (by cases hk), fun g hg => (by cases hg)⟩, fun g hg => (by cases hg), ⟨fun _ => rfl, fun k => rfl⟩⟩
  · exact (hs hT s2 e1 ((e2 g (by simp)).trans hg)).eqv ⟨fun j => hi.1 j, fun k => hi.2 k⟩
  · obtain rfl := Option.some.inj hq
    by_cases hk : k = g
    · exact absurd (by simp [hk]) e4
    · exact hr k hk (e2 g (by simp) ob hg)
end
section
variable {P : Program} {T : Tbl} {n i : Nat} {ops : Array Oper} {l : List Oper} {fps : List Fp} {K : St → Prop} {tt : List (Nat × AV)} {H H' : Own} {o : Oper} {d : Nat}
theorem Ops.gld {oj : Oper} {j tj ty g off : Nat} {want : Bool} {ag r : AV} {c : Prop} {x : Operand} {ob : OB} (hg : o.guard = some (j, want)) (hd : o.dst = some d) (hn : Nat.blt d n = true) (hj : ops[j]? = some oj) (hdj : oj.dst = some tj) (hnj : Nat.blt tj n = true) (hb : lk tt tj = some ag) (hgv : GVal want ag c)
    (hop : o.op = .load ty x) (hx : evG tt x = some (.optr g off)) (hgo : c → gok c (St.ev ⟨tt, H⟩ x)) (hob : lk H g = some ob) (hr : readA T ty off ob.cells = some r)
    (hK : OpsL P T n ops (i + 1) l fps K ⟨(d, .whn c r) :: tt, H⟩) : OpsL P T n ops i (o :: l) (⟨[g], [], []⟩ :: fps) K ⟨tt, H⟩ :=
  ⟨_, _, rfl, fun ho => ⟨_, Step.read2 (r := .whn c r) (ob := ob) ho hd hob
    (fun hT s2 e1 hg2 => gst_sem (ρ := fun x => (s2.ev x).strip) hT ho hg hd (by simpa [Nat.blt_eq] using hn) hj hdj (by simpa [Nat.blt_eq] using hnj) ((e1 tj (List.mem_append_right _ (by simp [hg, hj, hdj]))).trans hb) hgv (fun hc => by
      have hm : x ∈ o.op.operands := by rw [hop]; simp [Op.operands]
      have he : s2.ev x = St.ev ⟨tt, H⟩ x := ev_at e1 hm
      have hs : (s2.ev x).strip = .optr g off := by rw [he]; exact evG_ev (st := ⟨tt, H⟩) hx
      refine ⟨fun y hy => ?_, ?_⟩
      · obtain rfl : y = x := by rw [hop] at hy; simpa [Op.operands] using hy
        exact .strip (by rw [he]; exact hgo hc)
      · rw [hop]
        exact .eff (.loadO hs hg2 hr)))
    (fun k hk hc => by
      simp only [AV.refs]
      exact readB_refs (readA_eq hr) (refsL_drop _ hc)), hK.out⟩⟩
end
theorem WP.join {P : Program} {n : Nat} {ι : Type} {x y : Code} {Q Q' : Exit → St → Prop} {st : St} (I : ι → St) (p : ι → Prop) (h1 : WP P n x (thenQ (fun s => ∃ i, p i ∧ St.Le s (I i)) Q) st) (h2 : ∀ i, p i → WP P n y Q' (I i)) : WP P n x (thenQ (WP P n y Q') Q) st := by
  refine h1.mono fun e s h => ?_
  cases e with
  | normal =>
    obtain ⟨i, hp, hle⟩ := h
    exact .le hle (h2 i hp)
  | _ => exact h
structure Held (p : Prop) : Prop where
  out : p
theorem WP.hold {P : Program} {n : Nat} (k : Nat) {c d : Code} {Q : Exit → St → Prop} {st : St} (h : Held (WP P n (.cond (.tmp k) c d) Q st)) : WP P n (.cond (.tmp k) c d) Q st := h.out
end Go.Proofs.YtmidechdlbcepaaGreat
namespace Go.Proofs.YtmidechdlbcepaaGreat
open Go.ChangeShapes Go.WideShapes Go.ChangeAt Go.RowKit Go.Deep
def RepF (w : World) (fs : List FV) (us : List Value) : Prop := ∀ σ, AV.RepL σ (fun b => b < w.heap.size) w (fs.map .fv) us
theorem RepF.append {w : World} {fs gs : List FV} {us vs : List Value} (h : RepF w fs us) (h' : RepF w gs vs) : RepF w (fs ++ gs) (us ++ vs) := fun σ => by
  rw [List.map_append]
  exact (h σ).append (h' σ)
theorem RepF.length {w : World} {fs : List FV} {us : List Value} (h : RepF w fs us) : us.length = fs.length := by simpa using (h (fun _ => undef)).length
theorem decode_repF {α : Type} {enc : α → List FV} {Ok : α → Prop} {w : World} {Q : List Value → Prop} (hd : ∀ cs, Q cs → ∃ x, Ok x ∧ RepF w (enc x) cs) : ∀ css : List (List Value), (∀ cs ∈ css, Q cs) → ∃ l : List α, l.length = css.length ∧ (∀ x ∈ l, Ok x) ∧ RepF w (l.flatMap enc) css.flatten
  | [], _ => ⟨[], rfl, by simp, fun _ => trivial⟩
  | cs :: css, h => by
    obtain ⟨x, hx, hr⟩ := hd cs (h _ (by simp))
    obtain ⟨l, hl, ho, hr'⟩ := decode_repF hd css (fun c hc => h c (by simp [hc]))
    exact ⟨x :: l, by simp [hl], by simpa using ⟨hx, ho⟩, by rw [List.flatMap_cons, List.flatten_cons]; exact hr.append hr'⟩
theorem rep_of_rd {w : World} {A : Option Addr} {n c : Nat} {us : List Value} {fs : List FV} (h : Rd w (fun b => b < w.heap.size) A us) (hr : RepF w fs us) (h1 : n ≤ c) (h2 : c ≤ maxLen) : (FV.sl fs n).Rep (fun b => b < w.heap.size) w (.slice A n c) := by
  refine ⟨A, c, rfl, h1, h2, ?_⟩
  by_cases hn : fs = []
  · exact .inl hn
  · obtain ⟨b, off, e, hb, hc⟩ := h (fun e => hn (List.eq_nil_of_length_eq_zero (by rw [← hr.length, e]; rfl)))
    exact .inr ⟨b, off, e, hb, FV.RepAt.ofL (hr (fun _ => undef)) hc⟩

section
variable {H : Type} {enc : TypeId × Value → H} {w : World} {base : Nat} {spare : Nat → Bool} {held : Bool}
theorem open_sl {α : Type} {ef : α → List FV} {Ok : α → Prop} {P : Program} {t e : TypeId} {n k by_ : Nat} {ls : List Leaf} {v : Value} (hu : P.underlying t = some (.slice e)) (hl : leaves P n e = some ls) (hc : P.cellsOf e = k) (hk : ls.length = k) (hp : 0 < k)
    (hby : P.bytesOf e = by_) (hd : ∀ cs, AllOk enc P w base spare held (SizedCl P) ls cs → ∃ x, Ok x ∧ RepF w (ef x) cs) (h : LeafOk enc P w base spare held (SizedCl P) (.slice t) v) :
    ∃ l : List α, (∀ x ∈ l, Ok x) ∧ l.length * by_ ≤ reachBytes ∧ (slOf ef l).Rep (fun b => b < w.heap.size) w v := by
  obtain ⟨m, y, hm, hC⟩ := h
  obtain ⟨css, A, c, rfl, h1, h2, h3, h4, h5⟩ := open_slice_plain closed_sized hu hl (hc.trans hk.symm) (by omega) hm hC
  obtain ⟨l, hlen, hok, hr⟩ := decode_repF hd css h3
  refine ⟨l, hok, ?_, by rw [← hlen]; exact rep_of_rd h4 hr (by omega) h2⟩
  rcases h5 with h5 | ⟨el, sp, hE, hel⟩
  · rw [h5] at hlen
    rw [hlen]
    simp
  · have := hE ((el.length + sp.length) * P.bytesOf e) (by simp [DataW.weights, hu])
    rw [hby] at this
    rw [hlen, ← hel]
    exact Nat.le_trans (Nat.mul_le_mul_right _ (by omega)) this
theorem open_sl_arg {α : Type} {ef : α → List FV} {Ok : α → Prop} {P : Program} {t e : TypeId} {n k by_ : Nat} {ls : List Leaf} {v : Value} {d : DataW H} {p : List MemPlace} (hu : P.underlying t = some (.slice e)) (hl : leaves P n e = some ls) (hc : P.cellsOf e = k) (hk : ls.length = k) (hp : 0 < k)
    (hby : P.bytesOf e = by_) (hd : ∀ cs, AllOk enc P w base spare held (SizedCl P) ls cs → ∃ x, Ok x ∧ RepF w (ef x) cs) {r : Reach} {b0 : Nat} (hv : Value.okWide P w r b0 t v) (h : DataW.Trod enc P w base spare held t v d p) (hs : SizedCl P t d) :
    ∃ l : List α, (∀ x ∈ l, Ok x) ∧ l.length * by_ ≤ reachBytes ∧ (slOf ef l).Rep (fun b => b < w.heap.size) w v := by
  obtain ⟨A, len, cap, rfl⟩ := okWide_slice hu hv
  obtain ⟨m, hm⟩ := h
  exact open_sl hu hl hc hk hp hby hd ⟨m, (d, p), hm, hs⟩

end

theorem Fun.yes {P : Program} {f : FuncId} {args : List AV} {vs : List Value} {w : World} (h : Fun P f args (.fv (.bool true))) (hr : AV.RepL (fun _ => undef) (fun b => b < w.heap.size) w args vs) :
    Calls P f vs.toArray w fun e w' => e = .returned (.bool true) ∧ Below w.heap.size w w' := by
  refine (h.2 (fun _ => undef) (fun b => b < w.heap.size) w vs (inv_none fun _ h => h) hr).mono ?_
  rintro e w' ⟨v, r, own', σ', Z', rfl, ⟨rfl, rfl⟩, hI, hv⟩
  have hv : v = .bool true := hv
  subst hv
  refine ⟨rfl, hI.os, hI.tape, hI.output, hI.size, fun b hb => hI.frame b hb ?_⟩
  rintro ⟨g, ob, h1, _⟩
  simp [lk] at h1
end Go.Proofs.YtmidechdlbcepaaGreat