import Derived.Test.YtmidechdlbcepaaGreatPack30
import Derived.Lib.AppendZeros
set_option linter.unusedSimpArgs false
set_option linter.unusedVariables false
namespace Go.Proofs.YtmidechdlbcepaaGreat
open Go.RowKit
section
variable {P : Program} {T : Tbl} {n i : Nat} {ops : Array Oper} {st : St} {o : Oper} {d : Nat}
theorem appZ_sem {t u e s b k : Nat} {kn k' : IntKind} {x y : Operand} {zs : List AV} (hT : T.Ok P) (ho : ops[i]? = some o) (hg : o.guard = none) (hd : o.dst = some d) (hn : d < n) (hop : o.op = .call { callee := .builtin .append, args := #[x, y], argTypes := #[t, u] })
    (h3 : lk T.sli t = some (e, s, b)) (h4 : lk T.zero e = some zs) (hu : P.underlying u = some (.int kn)) (hx : st.ev x = .nil) (hy : st.ev y = .fv (.int k' (k : Int))) (h0 : 0 < k) (h47 : k * b ≤ 140737488355328) (h63 : k ≤ 140737488355328) (hf : Fresh st [(d, .row e s k ((List.replicate k zs).flatten))]) :
    OpSem P n ops i st ⟨(d, .osl d) :: st.t, (d, .row e s k ((List.replicate k zs).flatten)) :: st.own⟩ := by
  rintro C a w K Q ⟨h1, h2, σ, Z, hI, ht⟩ hK
  obtain ⟨hlow, hnT, hnH⟩ := hf (d, .row e s k ((List.replicate k zs).flatten)) (by simp)
  obtain ⟨hut, hs0, i', z, hi1, hi2, hi3, hi4, hi5⟩ := sliT_spec (tbl_lk hT.sli h3)
  have h4' := tbl_lk hT.zero h4
  have hxv : a.eval x = .slice none 0 0 := by have := ev_rep ht x; rw [hx] at this; exact this
  have hyv : a.eval y = .int k' (k : Int) := by have := ev_rep ht y; rw [hy] at this; exact this
  have hrun := Go.Lib.run_append_nil_zeros (P := P) w t u o.type e i' z k' kn hut hu hi1 hi2 k h0 (by omega) (by omega) (by rw [hi4]; omega)
  have hzr : AV.RepL σ Z w zs z.cells.toList := by
    unfold zeroT at h4'
    simp only [hi1, hi2, Option.some.injEq] at h4'
    exact h4' ▸ liftZ_repL _ _ _ _
  have hz0 : ∀ j, AV.RepL σ Z w ((List.replicate j zs).flatten) ((List.replicate j z.cells.toList).flatten) := fun j => by
    induction j with
    | zero => trivial
    | succ j ih => simpa [List.replicate_succ] using hzr.append ih
  have hcells : (Builtin.zeroCells z.cells k).toList = (List.replicate k z.cells.toList).flatten := by
    unfold Builtin.zeroCells
    rw [range_cells z.cells k z.cells.size rfl]
  have hlen : (Builtin.zeroCells z.cells k).toList.length = k * s := by rw [Array.length_toList, size_zeroCells, hi5]
  have hrefs : AV.refsL d ((List.replicate k zs).flatten) = false := refsL_flatten (zeroT_refs h4') k
  have hge := grownCap_ge w k 0 e
  have hcm : grownCap w k 0 e ≤ maxLen := grownCap_le_maxLen w k 0 e (by unfold maxLen; omega)
  generalize hcap : grownCap w k 0 e = cap at *
  have hown : (w.drew.alloc (.cells (Builtin.zeroCells z.cells k ++ Builtin.zeroCells z.cells (cap - k)) e)).ownsRow 0 e s (.slice (some ⟨w.heap.size, 0, none⟩) k cap) k (Builtin.zeroCells z.cells k).toList :=
    ⟨hlen, .inr ⟨w.heap.size, cap, _, rfl, Nat.zero_le _, heap_alloc_new w.drew _, hge, hcm, by
      rw [Array.size_append, size_zeroCells, size_zeroCells, hi5, ← Nat.add_mul]
      congr 1
      omega, by
      rw [Array.toList_append, ← hlen]
      exact List.take_left⟩⟩
  have hgr : w.grownBy (w.drew.alloc (.cells (Builtin.zeroCells z.cells k ++ Builtin.zeroCells z.cells (cap - k)) e)) none := ⟨rfl, rfl, rfl, by simp, fun k hk _ => heap_alloc_old w.drew _ hk⟩
  generalize hw' : w.drew.alloc (.cells (Builtin.zeroCells z.cells k ++ Builtin.zeroCells z.cells (cap - k)) e) = w' at *
  have hdr : w.drawn ≤ w'.drawn := by
    rw [← hw']
    exact Nat.le_succ _
  unfold wpOp
  simp only [ho]
  rw [if_pos (by simp [Region.wanted, hg])]
  refine .inl (wp_val (v := .slice (some ⟨w.heap.size, 0, none⟩) k cap) (w' := w') (by simp [execOp, hop, resolve, invoke, builtin, hxv, hyv, hrun]) ?_)
  have hkeep : Keeps Z w w' := fun b hb => hgr.block b (hI.zlt b hb) (fun e => by cases e)
  have hrep : AV.RepL (upd σ d (.slice (some ⟨w.heap.size, 0, none⟩) k cap)) Z w' ((List.replicate k zs).flatten) (Builtin.zeroCells z.cells k).toList := AV.RepL.mono hkeep (fun _ h => h) (refsL_upd _ hrefs) (hcells ▸ hz0 k)
  obtain ⟨hI', _⟩ := hI.append (own' := st.own) (d := d) (v' := .slice (some ⟨w.heap.size, 0, none⟩) k cap) (ob := .row e s k ((List.replicate k zs).flatten)) (row := none) hlow hnH (fun i x hi => ⟨hi, fun b _ h => by cases h⟩) (fun b hb => by cases hb) hgr hdr (fun b hb => by
    rw [blk_slice (by omega)] at hb
    exact .inr (Option.some.inj hb).symm) ⟨_, rowZ_of hown, hrep⟩
  apply hK
  refine ⟨(put_defers ..).trans h1, by simp [Act.put, hd, h2], _, Z, hI', ?_⟩
  simp only [Act.put, hd]
  exact Temps.put (ht.mono hkeep (fun _ h => h) (fun i a hi => refs_upd _ (hnT _ _ hi))) (by omega) ⟨by rw [upd_hit], _, _, _, rfl⟩
theorem Step.appZ {t u e s b k : Nat} {kn k' : IntKind} {x y : Operand} {zs : List AV} (ho : ops[i]? = some o) (hg : o.guard = none) (hd : o.dst = some d) (hn : d < n) (hop : o.op = .call { callee := .builtin .append, args := #[x, y], argTypes := #[t, u] })
    (h3 : lk T.sli t = some (e, s, b)) (h4 : lk T.zero e = some zs) (hu : P.underlying u = some (.int kn)) (hx : st.ev x = .nil) (hy : st.ev y = .fv (.int k' (k : Int))) (h0 : 0 < k) (h47 : k * b ≤ 140737488355328) (h63 : k ≤ 140737488355328) (hf : Fresh st [(d, .row e s k ((List.replicate k zs).flatten))]) :
    Step P T n ops i ⟨[], [d], [d]⟩ st ⟨(d, .osl d) :: st.t, (d, .row e s k ((List.replicate k zs).flatten)) :: st.own⟩ := by
  intro hT
  obtain ⟨hlow, hnT, hnH⟩ := hf (d, .row e s k ((List.replicate k zs).flatten)) (by simp)
  have h4' := tbl_lk hT.zero h4
  refine ⟨o, some (d, .osl d), [(d, some (.row e s k ((List.replicate k zs).flatten)))], ho, ⟨fun s2 s2' e1 e2 hf2 hi => ?_, fun g e1 e2 e3 _ => ?_, fun q hq => (by obtain rfl := Option.some.inj hq; exact hd), fun q z hk => ?_, fun g hg => (by simp at hg; simp [hg])⟩, fun g hg => ?_, ⟨fun _ => rfl, fun g => ?_⟩⟩
  · have he := ev_looks (st := st) (st' := s2) e1
    rw [hop] at he
    have hx' := he x (by simp [Op.operands, Call.operands])
    have hy' := he y (by simp [Op.operands, Call.operands])
    refine (appZ_sem hT ho hg hd hn hop h3 h4 hu (hx'.trans hx) (hy'.trans hy) h0 h47 h63 (fun p hp => by simp at hp; subst hp; exact ⟨hlow, hf2 d (by simp)⟩)).eqv ⟨fun j => hi.1 j, fun g => ?_⟩
    rw [hi.2, eff_cons, lk_cons]
    rfl
  · refine ⟨fun q hq => ?_, fun q ob hk => ?_⟩
    · obtain rfl := Option.some.inj hq
      simp only [AV.refs]
      cases e : Nat.beq d g with
      | false => rfl
      | true => exact absurd (Nat.eq_of_beq_eq_true e) (by intro e; subst e; simp at e3)
    · rw [lk_cons] at hk
      split at hk
      · simp only [Option.some.injEq] at hk
        subst hk
        exact refsL_flatten (zeroT_refs h4') k
      · simp [lk] at hk
  · rw [lk_cons] at hk
    split at hk
    · rename_i e; subst e; simp
    · simp [lk] at hk
  · simp at hg
    subst hg
    exact ⟨hnT, hnH⟩
  · show lk ((d, _) :: st.own) g = _
    rw [eff_cons, lk_cons]
    rfl
theorem Ops.appZ {l : List Oper} {fps : List Fp} {K : St → Prop} {tt : List (Nat × AV)} {H : Own} {t u e s b k : Nat} {kn k' : IntKind} {x y : Operand} {zs : List AV} (hg : o.guard = none) (hd : o.dst = some d) (hn : Nat.blt d n = true) (hop : o.op = .call { callee := .builtin .append, args := #[x, y], argTypes := #[t, u] })
    (h3 : lk T.sli t = some (e, s, b)) (h4 : lk T.zero e = some zs) (hu : P.underlying u = some (.int kn)) (hx : evO tt x = some .nil) (hy : evO tt y = some (.fv (.int k' (k : Int)))) (h0 : 0 < k) (h47 : k * b ≤ 140737488355328) (h63 : k ≤ 140737488355328) (hf : freshB ⟨tt, H⟩ [(d, .row e s k ((List.replicate k zs).flatten))] = true) (hK : OpsL P T n ops (i + 1) l fps K ⟨(d, .osl d) :: tt, (d, .row e s k ((List.replicate k zs).flatten)) :: H⟩) :
    OpsL P T n ops i (o :: l) (⟨[], [d], [d]⟩ :: fps) K ⟨tt, H⟩ :=
  ⟨_, _, rfl, fun ho => ⟨_, Step.appZ (P := P) (T := T) (n := n) (st := ⟨tt, H⟩) (d := d) (k := k) ho hg hd (by simpa [Nat.blt_eq] using hn) hop h3 h4 hu (evO_ev (st := ⟨tt, H⟩) hx) (evO_ev (st := ⟨tt, H⟩) hy) h0 h47 h63 (freshB_mem hf), hK.out⟩⟩
theorem X.appZ {l : List Oper} {pre : List Fp} {K : List Fp → St → Prop} {tt : List (Nat × AV)} {H : Own} {t u e s b k : Nat} {kn k' : IntKind} {x y : Operand} {zs : List AV} (hu : P.underlying u = some (.int kn)) (hk : k * b ≤ 140737488355328 ∧ k ≤ 140737488355328 ∧ 0 < k) (hK : OpsX P T n ops (i + 1) l ((⟨[], [d], [d]⟩) :: pre) K ⟨(d, .osl d) :: tt, (d, .row e s k ((List.replicate k zs).flatten)) :: H⟩)
    (hg : o.guard = none := by rfl) (hd : o.dst = some d := by rfl) (hn : Nat.blt d n = true := by rfl) (hop : o.op = .call { callee := .builtin .append, args := #[x, y], argTypes := #[t, u] } := by rfl) (h3 : lk T.sli t = some (e, s, b) := by rfl) (h4 : lk T.zero e = some zs := by rfl) (hx : evO tt x = some .nil := by rfl) (hy : evO tt y = some (.fv (.int k' (k : Int))) := by rfl) (hf : freshB ⟨tt, H⟩ [(d, .row e s k ((List.replicate k zs).flatten))] = true) :
    OpsX P T n ops i (o :: l) pre K ⟨tt, H⟩ := .of (fun h => Ops.appZ hg hd hn hop h3 h4 hu hx hy hk.2.2 hk.1 hk.2.1 hf h) hK
end
section
variable {P : Program} {T : Tbl} {n i : Nat} {ops : Array Oper} {st : St} {o : Oper} {d : Nat}
theorem pure_sem {r : AV} {v : Value} (ho : ops[i]? = some o) (hg : o.guard = none) (hd : o.dst = some d) (hn : d < n) (hex : ∀ σ Z w (a : Act), Temps σ Z w st.t a.tmps → (execOp a.eval o).run P w = .ok (.value v) w) (hv : ∀ σ Z w, r.Rep σ Z w v) : OpSem P n ops i st ⟨(d, r) :: st.t, st.own⟩ := by
  rintro C a w K Q ⟨h1, h2, σ, Z, hI, ht⟩ hK
  unfold wpOp
  simp only [ho]
  rw [if_pos (by simp [Region.wanted, hg])]
  refine .inl (wp_val (v := v) (w' := w) (hex σ Z w a ht) ?_)
  apply hK
  refine ⟨(put_defers ..).trans h1, by simp [Act.put, hd, h2], σ, Z, hI, ?_⟩
  simp only [Act.put, hd]
  exact Temps.put ht (by omega) (hv σ Z w)
theorem Step.pure {r : AV} {v : Value} (ho : ops[i]? = some o) (hg : o.guard = none) (hd : o.dst = some d) (hn : d < n) (hex : T.Ok P → ∀ s2 : St, (∀ q ∈ o.op.operands, s2.ev q = st.ev q) → ∀ σ Z w (a : Act), Temps σ Z w s2.t a.tmps → (execOp a.eval o).run P w = .ok (.value v) w) (hv : ∀ σ Z w, r.Rep σ Z w v) (hr : ∀ g, r.refs g = false) :
    Step P T n ops i ⟨[], [], []⟩ st ⟨(d, r) :: st.t, st.own⟩ := by
  intro hT
  refine ⟨o, some (d, r), [], ho, ⟨fun s2 s2' e1 e2 hf2 hi => ?_, fun g e1 e2 e3 _ => ?_, fun q hq => (by obtain rfl := Option.some.inj hq; exact hd), fun q z hk => (by simp [lk] at hk), fun g hg => (by simp at hg)⟩, fun g hg => (by simp at hg), ⟨fun _ => rfl, fun g => rfl⟩⟩
  · have he := ev_looks (st := st) (st' := s2) e1
    refine (pure_sem ho hg hd hn (hex hT s2 he) hv).eqv ⟨fun j => hi.1 j, fun g => ?_⟩
    rw [hi.2]
    rfl
  · exact ⟨fun q hq => (by obtain rfl := Option.some.inj hq; exact hr g), fun q ob hk => (by simp [lk] at hk)⟩
theorem X.pure {l : List Oper} {pre : List Fp} {K : List Fp → St → Prop} {tt : List (Nat × AV)} {H : Own} {r : AV} {v : Value} (hex : T.Ok P → ∀ s2 : St, (∀ q ∈ o.op.operands, s2.ev q = St.ev ⟨tt, H⟩ q) → ∀ σ Z w (a : Act), Temps σ Z w s2.t a.tmps → (execOp a.eval o).run P w = .ok (.value v) w) (hv : ∀ σ Z w, r.Rep σ Z w v) (hr : ∀ g, r.refs g = false)
    (hK : OpsX P T n ops (i + 1) l ((⟨[], [], []⟩) :: pre) K ⟨(d, r) :: tt, H⟩) (hg : o.guard = none := by rfl) (hd : o.dst = some d := by rfl) (hn : Nat.blt d n = true := by rfl) :
    OpsX P T n ops i (o :: l) pre K ⟨tt, H⟩ := .of (fun {fps K'} h => ⟨_, _, rfl, fun ho => ⟨_, Step.pure (P := P) (T := T) (n := n) (st := ⟨tt, H⟩) (d := d) (r := r) ho hg hd (by simpa [Nat.blt_eq] using hn) hex hv hr, h.out⟩⟩) hK
theorem X.capN {l : List Oper} {pre : List Fp} {K : List Fp → St → Prop} {tt : List (Nat × AV)} {H : Own} {x : Operand} {t e s b : Nat} (hK : OpsX P T n ops (i + 1) l ((⟨[], [], []⟩) :: pre) K ⟨(d, .fv (.int .i64 0)) :: tt, H⟩) (hop : o.op = .call { callee := .builtin .cap, args := #[x], argTypes := #[t] } := by rfl) (hx : evO tt x = some .nil := by rfl) (h3 : lk T.sli t = some (e, s, b) := by rfl) (hg : o.guard = none := by rfl) (hd : o.dst = some d := by rfl) (hn : Nat.blt d n = true := by rfl) :
    OpsX P T n ops i (o :: l) pre K ⟨tt, H⟩ := X.pure (r := .fv (.int .i64 0)) (v := .int .i64 0) (fun hT s2 he σ Z w a ht => by
  have hxv : a.eval x = .slice none 0 0 := by
    have := ev_rep ht x
    rw [he x (by rw [hop]; simp [Op.operands, Call.operands]), evO_ev (st := ⟨tt, H⟩) hx] at this
    exact this
  obtain ⟨hu, _⟩ := sliT_spec (tbl_lk hT.sli h3)
  simp [execOp, hop, resolve, invoke, builtin, hxv, Builtin.cap_, run_underlying hu, goInt]) (fun _ _ _ => rfl) (fun _ => rfl) hK hg hd hn
theorem X.sliN {l : List Oper} {pre : List Fp} {K : List Fp → St → Prop} {tt : List (Nat × AV)} {H : Own} {x hi : Operand} {t e s b : Nat} {k' : IntKind} (hK : OpsX P T n ops (i + 1) l ((⟨[], [], []⟩) :: pre) K ⟨(d, .nil) :: tt, H⟩) (hop : o.op = .slice t x none (some hi) none := by rfl) (hx : evO tt x = some .nil := by rfl) (hh : evO tt hi = some (.fv (.int k' 0)) := by rfl) (h3 : lk T.sli t = some (e, s, b) := by rfl) (hg : o.guard = none := by rfl) (hd : o.dst = some d := by rfl) (hn : Nat.blt d n = true := by rfl) :
    OpsX P T n ops i (o :: l) pre K ⟨tt, H⟩ := X.pure (r := .nil) (v := .slice none 0 0) (fun hT s2 he σ Z w a ht => by
  have hxv : a.eval x = .slice none 0 0 := by
    have := ev_rep ht x
    rw [he x (by rw [hop]; simp [Op.operands]), evO_ev (st := ⟨tt, H⟩) hx] at this
    exact this
  have hhv : a.eval hi = .int k' 0 := by
    have := ev_rep ht hi
    rw [he hi (by rw [hop]; simp [Op.operands]), evO_ev (st := ⟨tt, H⟩) hh] at this
    exact this
  obtain ⟨hu, hs, i', z, hi1, hi2, hi3, hi4, hi5⟩ := sliT_spec (tbl_lk hT.sli h3)
  simp [execOp, hop, hxv, hhv, Instr.sliceAt, Instr.slice, run_underlying hu, Instr.sliceBounds, run_sliceBound, sizeOf, typeInfo, hi1, hi3]) (fun _ _ _ => rfl) (fun _ => rfl) hK hg hd hn
theorem X.appZE {l : List Oper} {pre : List Fp} {K : List Fp → St → Prop} {tt : List (Nat × AV)} {H : Own} {t u e s b k : Nat} {kn k' : IntKind} {v : Int} {x y : Operand} {zs : List AV} (hu : P.underlying u = some (.int kn)) (hk : v = (k : Int) ∧ k * b ≤ 140737488355328 ∧ k ≤ 140737488355328 ∧ 0 < k) (hK : OpsX P T n ops (i + 1) l ((⟨[], [d], [d]⟩) :: pre) K ⟨(d, .osl d) :: tt, (d, .row e s k ((List.replicate k zs).flatten)) :: H⟩)
    (hg : o.guard = none := by rfl) (hd : o.dst = some d := by rfl) (hn : Nat.blt d n = true := by rfl) (hop : o.op = .call { callee := .builtin .append, args := #[x, y], argTypes := #[t, u] } := by rfl) (h3 : lk T.sli t = some (e, s, b) := by rfl) (h4 : lk T.zero e = some zs := by rfl) (hx : evO tt x = some .nil := by rfl) (hy : evO tt y = some (.fv (.int k' v)) := by rfl) (hf : freshB ⟨tt, H⟩ [(d, .row e s k ((List.replicate k zs).flatten))] = true := by first | rfl | (simp only [freshB, noRefH, OB.cells, refsL_fv, refsL_app]; rfl)) :
    OpsX P T n ops i (o :: l) pre K ⟨tt, H⟩ := by
  obtain ⟨rfl, h1, h2, h3'⟩ := hk
  exact X.appZ hu ⟨h1, h2, h3'⟩ hK hg hd hn hop h3 h4 hx hy hf
end
end Go.Proofs.YtmidechdlbcepaaGreat