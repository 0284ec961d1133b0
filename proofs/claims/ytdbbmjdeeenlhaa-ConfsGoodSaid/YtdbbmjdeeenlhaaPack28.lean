/- What is refused of what is there already: plain. -/
import Derived.Test.YtdbbmjdeeenlhaaPack25
import Derived.Test.YtdbbmjdeeenlhaaPack21
import Derived.Test.YtdbbmjdeeenlhaaPack27
set_option linter.unusedSimpArgs false
set_option linter.unusedVariables false
namespace Go.Proofs.Ytdbbmjdeeenlhaa
open Go.RowKit

theorem applyE_1 {c : Cf} (h : CfOk c) (s : Sw) : applyE c { de0 with kind := 1, sw := s } = swFault c s := by
  rw [applyE, if_neg (by rw [cfMay_iff.2 h]; decide), if_pos rfl]
theorem applyE_2 {c : Cf} (h : CfOk c) (p : Po) : applyE c { de0 with kind := 2, po := p } = poFault c p := by
  rw [applyE, if_neg (by rw [cfMay_iff.2 h]; decide), if_neg (by dsimp only; omega), if_pos rfl]
theorem applyE_7 {c : Cf} (h : CfOk c) : applyE c { de0 with kind := 7 } = 3 := by
  rw [applyE, if_neg (by rw [cfMay_iff.2 h]; decide)]
  rfl
theorem poFault7 {c : Cf} {p q : Po} (hr : PoR p) (hs : hasSw c.ss p.sw) (hq : q ∈ c.ps) (h : ¬ PoD c.ss q p) : poFault c p = 7 := by
  unfold poFault
  rw [if_neg, if_neg]
  · by_cases h3 : c.ps.any (fun q => q.id == p.id || (q.sw == p.sw && q.mac == p.mac)) = true
    · rw [if_pos h3]
    · rw [if_neg h3, if_pos]
      have h3' : c.ps.any (fun q => q.id == p.id || (q.sw == p.sw && q.mac == p.mac)) = false := by simpa using h3
      have := List.any_eq_false.1 h3' q hq
      simp only [Bool.or_eq_true, Bool.and_eq_true, beq_iff_eq] at this
      have h4 : q.ip = p.ip ∧ tenantAt c.ss q.sw = tenantAt c.ss p.sw := by
        apply Decidable.byContradiction
        intro h4
        exact h ⟨fun e => this (.inl e), fun e => this (.inr e), h4⟩
      simp only [takenB, Bool.or_eq_true, List.any_eq_true, Bool.and_eq_true, beq_iff_eq]
      exact .inr ⟨q, hq, h4⟩
  · rw [hasSw_any.2 hs]
    simp
  · simp only [inR_not]
    unfold PoR at hr
    omega
theorem twice1 {c : Cf} (h : CfOk c) {p : Po} (hp : p ∈ c.ps) : applyE c { de0 with kind := 2, po := p } = 7 := by
  rw [applyE_2 h]
  obtain ⟨h1, h2, _⟩ := h.pg p hp
  exact poFault7 h1 h2 hp fun h => h.1 rfl
theorem twice2 {c : Cf} (h : CfOk c) {p : Po} (hp : p ∈ c.ps) {n : Int} (hn : 0 ≤ n ∧ n < 50) : applyE c { de0 with kind := 2, po := { p with id := 900 + n } } = 7 := by
  rw [applyE_2 h]
  obtain ⟨h1, h2, _⟩ := h.pg p hp
  exact poFault7 (by unfold PoR at *; dsimp only; omega) h2 hp fun h => h.2.1 ⟨rfl, rfl⟩
theorem twice3 {c : Cf} (h : CfOk c) {p : Po} (hp : p ∈ c.ps) {n : Int} (hn : 0 ≤ n ∧ n < 50) : applyE c { de0 with kind := 2, po := { p with id := 900 + n, mac := 5000 } } = 7 := by
  rw [applyE_2 h]
  obtain ⟨h1, h2, _⟩ := h.pg p hp
  exact poFault7 (by unfold PoR at *; dsimp only; omega) h2 hp fun h => h.2.2 ⟨rfl, rfl⟩
theorem twice4 {c : Cf} (h : CfOk c) (hs : SwSome c) : applyE c { de0 with kind := 1, sw := ⟨1, 9, 0⟩ } = 7 := by
  rw [applyE_1 h]
  unfold swFault
  rw [if_neg (by decide), if_pos (.inl (hasSw_any.2 hs.1))]
theorem twice5 {c : Cf} (h : CfOk c) (hs : SwSome c) : applyE c { de0 with kind := 2, po := ⟨999, 400, 1, 1, 0⟩ } = 6 := by
  rw [applyE_2 h]
  unfold poFault
  rw [if_neg (by decide), if_pos]
  apply hasSw_not.2
  rintro ⟨s, hs1, e⟩
  have := hs.2.1 s hs1
  dsimp only at e
  omega
end Go.Proofs.Ytdbbmjdeeenlhaa

/- Raw numbers and strings that came in, as data by value. -/
namespace Go.Proofs.Ytdbbmjdeeenlhaa
open Go.ChangeShapes Go.WideShapes Go.ChangeAt Go.RowKit Go.Deep
set_option maxRecDepth 100000

def rawLeaves : List Leaf := [.int, .int, .int, .int]
theorem raw_leaves : leaves Try.prog 2 67 = some rawLeaves := by kernel_rfl
theorem raw_leaves3 : leaves Try.prog 3 67 = some rawLeaves := by kernel_rfl
theorem raw_cellsOf : Try.prog.cellsOf 67 = 4 := by kernel_rfl
theorem raw_bytes : Try.prog.bytesOf 67 = 32 := by kernel_rfl
section
variable {H : Type} {enc : TypeId × Value → H} {P : Program} {w : World} {base : Nat} {spare : Nat → Bool} {held : Bool} {Cl : TypeId → DataW H → Prop}
theorem raw_rep {cs : List Value} (h : AllOk enc P w base spare held Cl rawLeaves cs) : ∃ r : Rq, r.Ok ∧ RepF w (encRq r) cs := by
  match cs, h.length with
  | [c0, c1, c2, c3], _ =>
    obtain ⟨⟨a0, rfl, b0⟩, ⟨a1, rfl, b1⟩, ⟨a2, rfl, b2⟩, ⟨a3, rfl, b3⟩, _⟩ := h
    exact ⟨⟨a0, a1, a2, a3⟩, ⟨b0, b1, b2, b3⟩, fun _ => ⟨rfl, rfl, rfl, rfl, trivial⟩⟩
theorem open_raws {v : Value} {d : DataW H} {p : List MemPlace} {r : Reach} {b0 : Nat} (hv : Value.okWide Try.prog w r b0 40 v) (h : DataW.Trod enc Try.prog w base spare held 40 v d p) (hs : SizedCl Try.prog 40 d) :
    ∃ l : List Rq, (∀ x ∈ l, x.Ok) ∧ l.length * 32 ≤ reachBytes ∧ (slOf encRq l).Rep (fun b => b < w.heap.size) w v :=
  open_sl_arg Try.underlying40 raw_leaves raw_cellsOf rfl (by omega) raw_bytes (fun _ h => raw_rep h) hv h hs
theorem open_raw {r : Reach} {b0 : Nat} {v : Value} {d : DataW H} {p : List MemPlace} (hv : Value.okWide Try.prog w r b0 67 v) (h : DataW.Trod enc Try.prog w base spare held 67 v d p) :
    ∃ a : Rq, a.Ok ∧ ∃ cs : List Value, v = .agg cs.toArray ∧ RepF w (encRq a) cs := by
  obtain ⟨cs, rfl, hcs⟩ := open_struct Try.underlying67 raw_leaves3 hv h
  obtain ⟨a, ho, ha⟩ := raw_rep hcs
  exact ⟨a, ho, cs, rfl, ha⟩
end
end Go.Proofs.Ytdbbmjdeeenlhaa

/- What is wanted, as it came in, as data by value. -/
namespace Go.Proofs.Ytdbbmjdeeenlhaa
open Go.ChangeShapes Go.WideShapes Go.ChangeAt Go.RowKit Go.Deep
set_option maxRecDepth 100000

section
variable {H : Type} {enc : TypeId × Value → H} {P : Program} {w : World} {base : Nat} {spare : Nat → Bool} {held : Bool} {Cl : TypeId → DataW H → Prop}
theorem sw_rep {cs : List Value} (h : AllOk enc P w base spare held Cl swLeaves cs) : ∃ x : Sw, x.Ok ∧ RepF w (encSw x) cs := by
  obtain ⟨x, rfl, hx⟩ := sw_of_ok h
  exact ⟨x, hx, fun _ => ⟨rfl, rfl, rfl, trivial⟩⟩
theorem po_rep {cs : List Value} (h : AllOk enc P w base spare held Cl poLeaves cs) : ∃ x : Po, x.Ok ∧ RepF w (encPo x) cs := by
  obtain ⟨x, rfl, hx⟩ := po_of_ok h
  exact ⟨x, hx, fun _ => ⟨rfl, rfl, rfl, rfl, rfl, trivial⟩⟩
theorem ac_rep {cs : List Value} (h : AllOk enc P w base spare held Cl acLeaves cs) : ∃ x : Ac, x.Ok ∧ RepF w (encAc x) cs := by
  obtain ⟨x, rfl, hx⟩ := ac_of_ok h
  exact ⟨x, hx, fun _ => ⟨rfl, rfl, rfl, rfl, rfl, rfl, rfl, rfl, rfl, trivial⟩⟩
theorem small_of {c : Cf} (h0 : c.ss.length * 24 ≤ reachBytes) (h1 : c.ps.length * 40 ≤ reachBytes) (h2 : c.acs.length * 72 ≤ reachBytes) : c.Small := by
  have h0 := reach_le h0
  have h1 := reach_le h1
  have h2 := reach_le h2
  exact ⟨by omega, by omega, by omega⟩
theorem open_cf {r : Reach} {b0 : Nat} {v : Value} {d : DataW H} {p : List MemPlace} (hv : Value.okWide Try.prog w r b0 50 v) (h : DataW.Trod enc Try.prog w base spare held 50 v d p) (hs : SizedCl Try.prog 50 d) :
    ∃ c : Cf, c.Ok ∧ c.Small ∧ c.ss.length * 24 ≤ reachBytes ∧ c.ps.length * 40 ≤ reachBytes ∧ c.acs.length * 72 ≤ reachBytes ∧ ∃ cs : List Value, v = .agg cs.toArray ∧ RepF w (encCf c) cs := by
  obtain ⟨cs, rfl, hcs⟩ := open_struct_c closed_sized Try.underlying50 conf_leaves hv h hs
  match cs, hcs with
  | [v0, v1, v2], ⟨l0, l1, l2, _⟩ =>
    obtain ⟨ss, a1, a2, a3⟩ := open_sl Try.underlying46 sw_leaves sw_cellsOf rfl (by omega) sw_bytes (fun _ h => sw_rep h) l0
    obtain ⟨ps, b1, b2, b3⟩ := open_sl Try.underlying47 po_leaves po_cellsOf rfl (by omega) po_bytes (fun _ h => po_rep h) l1
    obtain ⟨acs, c1, c2, c3⟩ := open_sl Try.underlying48 ac_leaves ac_cellsOf rfl (by omega) ac_bytes (fun _ h => ac_rep h) l2
    exact ⟨⟨ss, ps, acs⟩, ⟨a1, b1, c1⟩, small_of a2 b2 c2, a2, b2, c2, _, rfl, repF_cons a3 (repF_cons b3 (repF_cons c3 repF_nil))⟩
theorem rep_agg {σ : Nat → Value} {fs : List FV} {cs : List Value} (h : RepF w fs cs) : (AV.agg (fs.map .fv)).Rep σ (fun b => b < w.heap.size) w (.agg cs.toArray) := ⟨_, rfl, by simpa using h σ⟩
end
end Go.Proofs.Ytdbbmjdeeenlhaa

/- The walk of the law ConfsGood. -/
namespace Go.Proofs.Ytdbbmjdeeenlhaa
open Go.ChangeShapes Go.WideShapes Go.ChangeAt Go.RowKit
set_option maxRecDepth 100000

theorem copyFP_T (c : Cf) (hl : c.Fit) : Fun Try.prog 28 [.agg ((encCf c).map .fv)] (.agg ((encCf c).map .fv)) :=
  (copy_T c hl).froz [7, 8, 9] (.agg (.cons (.frz rfl rfl rfl) (.cons (.frz rfl rfl rfl) (.cons (.frz rfl rfl rfl) .nil))))
theorem checkOk_T {c : Cf} (h : CfOk c) : Fun Try.prog 27 [.agg ((encCf c).map .fv)] (.fv (.int .i64 0)) := by
  have := confCheck_T c h.fit.small
  rwa [if_pos (cfMay_iff.2 h)] at this
set_option maxHeartbeats 4000000 in
theorem confsGood_T (l : List Rq) (r : Rq) (hok : ∀ r ∈ l, r.Ok) (hr : r.Ok) : Fun Try.prog 6 [.fv (slOf encRq l), .agg ((encRq r).map .fv)] (.fv (.bool true)) := by
  have c1 := conf_T l 40 hok (by omega)
  have h := confOf_ok l 40
  generalize confOf l 40 = c at *
  have c2 := change_T r hr
  generalize changeOf r = a at *
  have c3 := apply_T c a h.fit
  have c4 := apply_T c { de0 with kind := 7 } h.fit
  rw [applyE_7 h] at c4
  generalize applyR c { de0 with kind := 7 } = R7 at *
  have c5 := checkOk_T h
  have c6 := copyFP_T c h.fit
  have hR : applyE c a ≠ 0 → applyR c a = cf0 := applyR_bad
  have hR2 : applyE c a = 0 → CfOk (applyR c a) := fun e => by rw [applyR_ok e]; exact h.apply e
  generalize applyR c a = R at *
  generalize applyE c a = e at *
  refine Fun.body tbl_ok Try.func6 rfl (by kernel_rfl) rfl rfl rfl ?_
  by_cases he : e = 0
  · have c7 := checkOk_T (hR2 he)
    subst he
    repeat' (first
      | (apply X.loE; (· exact aR); (· first | exact .callL rfl rfl rfl (by first | exact c1 | exact c2 | exact c3 | exact c4 | exact c5 | exact c6 | exact c7) rfl | (apply LEff.callBL; (· rfl); (· rfl); (· exact c1); (· exact aB); (· rfl)) | (apply LEff.callBL; (· rfl); (· rfl); (· exact c2); (· exact aB); (· rfl)) | (apply LEff.callBL; (· rfl); (· rfl); (· exact c3); (· exact aB); (· rfl)) | (apply LEff.callBL; (· rfl); (· rfl); (· exact c4); (· exact aB); (· rfl)) | (apply LEff.callBL; (· rfl); (· rfl); (· exact c5); (· exact aB); (· rfl)) | (apply LEff.callBL; (· rfl); (· rfl); (· exact c6); (· exact aB); (· rfl)) | (apply LEff.callBL; (· rfl); (· rfl); (· exact c7); (· exact aB); (· rfl))))
      | refine X.loc ?_
      | refine nx ?_
      | refine X.cdT ?_
      | refine X.cdF ?_
      | (refine WP.condBit rfl ?_ ?_)
      | (refine WP.cond rfl ?_ ?_ <;> intro hcond)
      | (apply X.gsE; (· exact aR); (· exact aV); (· exact aW); (· intro hc; first | exact .callG rfl rfl rfl (by first | exact c1 | exact c2 | exact c3 | exact c4 | exact c5 | exact c6 | exact c7) rfl | (apply LEff.callBG; (· rfl); (· rfl); (· exact c1); (· exact aB); (· rfl)) | (apply LEff.callBG; (· rfl); (· rfl); (· exact c2); (· exact aB); (· rfl)) | (apply LEff.callBG; (· rfl); (· rfl); (· exact c3); (· exact aB); (· rfl)) | (apply LEff.callBG; (· rfl); (· rfl); (· exact c4); (· exact aB); (· rfl)) | (apply LEff.callBG; (· rfl); (· rfl); (· exact c5); (· exact aB); (· rfl)) | (apply LEff.callBG; (· rfl); (· rfl); (· exact c6); (· exact aB); (· rfl)) | (apply LEff.callBG; (· rfl); (· rfl); (· exact c7); (· exact aB); (· rfl))); (· exact aR))
      | refine X.gst ?_ | refine X.gld ?_ | refine X.new ?_ | refine X.app ?_ | refine X.appS ?_ | refine X.stoW ?_ | refine X.stoB ?_ | refine X.stoR ?_ | refine X.gand ?_ | refine X.gor ?_
      | refine nd ?_
      | ((with_reducible apply drwK.mk); (· kernel_rfl); (· exact aF))
      | fail)
    exact .f1 (.inl rfl) rfl rfl
  · have c7 := checkOk_T CfOk.nil
    have hR := hR he
    subst hR
    repeat' (first
      | (apply X.loE; (· exact aR); (· first | exact .callL rfl rfl rfl (by first | exact c1 | exact c2 | exact c3 | exact c4 | exact c5 | exact c6 | exact c7) rfl | (apply LEff.callBL; (· rfl); (· rfl); (· exact c1); (· exact aB); (· rfl)) | (apply LEff.callBL; (· rfl); (· rfl); (· exact c2); (· exact aB); (· rfl)) | (apply LEff.callBL; (· rfl); (· rfl); (· exact c3); (· exact aB); (· rfl)) | (apply LEff.callBL; (· rfl); (· rfl); (· exact c4); (· exact aB); (· rfl)) | (apply LEff.callBL; (· rfl); (· rfl); (· exact c5); (· exact aB); (· rfl)) | (apply LEff.callBL; (· rfl); (· rfl); (· exact c6); (· exact aB); (· rfl)) | (apply LEff.callBL; (· rfl); (· rfl); (· exact c7); (· exact aB); (· rfl))))
      | refine X.loc ?_
      | refine nx ?_
      | refine X.cdT ?_
      | refine X.cdF ?_
      | (refine WP.condBit rfl ?_ ?_)
      | (refine WP.cond rfl ?_ ?_ <;> intro hcond)
      | (apply X.gsE; (· exact aR); (· exact aV); (· exact aW); (· intro hc; first | exact .callG rfl rfl rfl (by first | exact c1 | exact c2 | exact c3 | exact c4 | exact c5 | exact c6 | exact c7) rfl | (apply LEff.callBG; (· rfl); (· rfl); (· exact c1); (· exact aB); (· rfl)) | (apply LEff.callBG; (· rfl); (· rfl); (· exact c2); (· exact aB); (· rfl)) | (apply LEff.callBG; (· rfl); (· rfl); (· exact c3); (· exact aB); (· rfl)) | (apply LEff.callBG; (· rfl); (· rfl); (· exact c4); (· exact aB); (· rfl)) | (apply LEff.callBG; (· rfl); (· rfl); (· exact c5); (· exact aB); (· rfl)) | (apply LEff.callBG; (· rfl); (· rfl); (· exact c6); (· exact aB); (· rfl)) | (apply LEff.callBG; (· rfl); (· rfl); (· exact c7); (· exact aB); (· rfl))); (· exact aR))
      | refine X.gst ?_ | refine X.gld ?_ | refine X.new ?_ | refine X.app ?_ | refine X.appS ?_ | refine X.stoW ?_ | refine X.stoB ?_ | refine X.stoR ?_ | refine X.gand ?_ | refine X.gor ?_
      | refine nd ?_
      | ((with_reducible apply drwK.mk); (· kernel_rfl); (· exact aF))
      | fail)
    · exfalso
      simp [cf0] at hcond
    · refine .f1 (.inl rfl) rfl ?_
      have : (e != 0) = true := by simpa using he
      simp [this]
theorem confsGood_open {H : Type} {enc : TypeId × Value → H} (W : World) (base : Nat) {v0 v1 : Value} {d0 d1 : DataW H} {p0 p1 : List MemPlace} (hv0 : Value.okWide Try.prog W .any base 40 v0)
    (h0 : DataW.Trod enc Try.prog W 0 (fun _ => true) true 40 v0 d0 p0) (hs0 : SizedCl Try.prog 40 d0) (hv1 : Value.okWide Try.prog W .any base 67 v1)
    (h1 : DataW.Trod enc Try.prog W 0 (fun _ => true) true 67 v1 d1 p1) (_hs1 : SizedCl Try.prog 67 d1) : Calls Try.prog 6 #[v0, v1] W fun e W' => e = .returned (.bool true) ∧ Below W.heap.size W W' := by
  obtain ⟨l, hl, _, hr⟩ := open_raws hv0 h0 hs0
  obtain ⟨r, ho, cs, rfl, hc⟩ := open_raw hv1 h1
  exact (confsGood_T l r hl ho).yes ⟨hr, rep_agg hc, trivial⟩
end Go.Proofs.Ytdbbmjdeeenlhaa
