/- What is refused of what is there already: plain. -/
import Derived.Test.YtdbbmjdeeenlhaaPack25
import Derived.Test.YtdbbmjdeeenlhaaPack21
import Derived.Test.YtdbbmjdeeenlhaaPack27
set_option linter.unusedSimpArgs false
set_option linter.unusedVariables false
namespace Go.Proofs.Ytdbbmjdeeenlhaa
open Go.RowKit

theorem applyE_1 {c : Cf} (h : CfOk c) (s : Sw) : applyE c { de0 with kind := 1, sw := s } = swFault c s := by
  rw [applyE, if_neg (by rw [cfMay_iff.2 h]; decide), if_pos rfl]
theorem applyE_2 {c : Cf} (h : CfOk c) (p : Po) : applyE c { de0 with kind := 2, po := p } = poFault c p := by
  rw [applyE, if_neg (by rw [cfMay_iff.2 h]; decide), if_neg (by dsimp only; omega), if_pos rfl]
theorem applyE_7 {c : Cf} (h : CfOk c) : applyE c { de0 with kind := 7 } = 3 := by
  rw [applyE, if_neg (by rw [cfMay_iff.2 h]; decide)]
  rfl
theorem poFault7 {c : Cf} {p q : Po} (hr : PoR p) (hs : hasSw c.ss p.sw) (hq : q ∈ c.ps) (h : ¬ PoD c.ss q p) : poFault c p = 7 := by
  unfold poFault
  rw [if_neg, if_neg]
  · by_cases h3 : c.ps.any (fun q => q.id == p.id || (q.sw == p.sw && q.mac == p.mac)) = true
    · rw [if_pos h3]
    · rw [if_neg h3, if_pos]
      have h3' : c.ps.any (fun q => q.id == p.id || (q.sw == p.sw && q.mac == p.mac)) = false := by simpa using h3
      have := List.any_eq_false.1 h3' q hq
      simp only [Bool.or_eq_true, Bool.and_eq_true, beq_iff_eq] at this
      have h4 : q.ip = p.ip ∧ tenantAt c.ss q.sw = tenantAt c.ss p.sw := by
        apply Decidable.byContradiction
        intro h4
        exact h ⟨fun e => this (.inl e), fun e => this (.inr e), h4⟩
      simp only [takenB, Bool.or_eq_true, List.any_eq_true, Bool.and_eq_true, beq_iff_eq]
      exact .inr ⟨q, hq, h4⟩
  · rw [hasSw_any.2 hs]
    simp
  · simp only [inR_not]
    unfold PoR at hr
    omega
theorem twice1 {c : Cf} (h : CfOk c) {p : Po} (hp : p ∈ c.ps) : applyE c { de0 with kind := 2, po := p } = 7 := by
  rw [applyE_2 h]
  obtain ⟨h1, h2, _⟩ := h.pg p hp
  exact poFault7 h1 h2 hp fun h => h.1 rfl
theorem twice2 {c : Cf} (h : CfOk c) {p : Po} (hp : p ∈ c.ps) {n : Int} (hn : 0 ≤ n ∧ n < 50) : applyE c { de0 with kind := 2, po := { p with id := 900 + n } } = 7 := by
  rw [applyE_2 h]
  obtain ⟨h1, h2, _⟩ := h.pg p hp
  exact poFault7 (by unfold PoR at *; dsimp only; omega) h2 hp fun h => h.2.1 ⟨rfl, rfl⟩
theorem twice3 {c : Cf} (h : CfOk c) {p : Po} (hp : p ∈ c.ps) {n : Int} (hn : 0 ≤ n ∧ n < 50) : applyE c { de0 with kind := 2, po := { p with id := 900 + n, mac := 5000 } } = 7 := by
  rw [applyE_2 h]
  obtain ⟨h1, h2, _⟩ := h.pg p hp
  exact poFault7 (by unfold PoR at *; dsimp only; omega) h2 hp fun h => h.2.2 ⟨rfl, rfl⟩
theorem twice4 {c : Cf} (h : CfOk c) (hs : SwSome c) : applyE c { de0 with kind := 1, sw := ⟨1, 9, 0⟩ } = 7 := by
  rw [applyE_1 h]
  unfold swFault
  rw [if_neg (by decide), if_pos (.inl (hasSw_any.2 hs.1))]
theorem twice5 {c : Cf} (h : CfOk c) (hs : SwSome c) : applyE c { de0 with kind := 2, po := ⟨999, 400, 1, 1, 0⟩ } = 6 := by
  rw [applyE_2 h]
  unfold poFault
  rw [if_neg (by decide), if_pos]
  apply hasSw_not.2
  rintro ⟨s, hs1, e⟩
  have := hs.2.1 s hs1
  dsimp only at e
  omega
end Go.Proofs.Ytdbbmjdeeenlhaa

/- Raw numbers and strings that came in, as data by value. -/
namespace Go.Proofs.Ytdbbmjdeeenlhaa
open Go.ChangeShapes Go.WideShapes Go.ChangeAt Go.RowKit Go.Deep
set_option maxRecDepth 100000

def rawLeaves : List Leaf := [.int, .int, .int, .int]
theorem raw_leaves : leaves Try.prog 2 67 = some rawLeaves := by kernel_rfl
theorem raw_leaves3 : leaves Try.prog 3 67 = some rawLeaves := by kernel_rfl
theorem raw_cellsOf : Try.prog.cellsOf 67 = 4 := by kernel_rfl
theorem raw_bytes : Try.prog.bytesOf 67 = 32 := by kernel_rfl
section
variable {H : Type} {enc : TypeId × Value → H} {P : Program} {w : World} {base : Nat} {spare : Nat → Bool} {held : Bool} {Cl : TypeId → DataW H → Prop}
theorem raw_rep {cs : List Value} (h : AllOk enc P w base spare held Cl rawLeaves cs) : ∃ r : Rq, r.Ok ∧ RepF w (encRq r) cs := by
  match cs, h.length with
  | [c0, c1, c2, c3], _ =>
    obtain ⟨⟨a0, rfl, b0⟩, ⟨a1, rfl, b1⟩, ⟨a2, rfl, b2⟩, ⟨a3, rfl, b3⟩, _⟩ := h
    exact ⟨⟨a0, a1, a2, a3⟩, ⟨b0, b1, b2, b3⟩, fun _ => ⟨rfl, rfl, rfl, rfl, trivial⟩⟩
theorem open_raws {v : Value} {d : DataW H} {p : List MemPlace} {r : Reach} {b0 : Nat} (hv : Value.okWide Try.prog w r b0 40 v) (h : DataW.Trod enc Try.prog w base spare held 40 v d p) (hs : SizedCl Try.prog 40 d) :
    ∃ l : List Rq, (∀ x ∈ l, x.Ok) ∧ l.length * 32 ≤ reachBytes ∧ (slOf encRq l).Rep (fun b => b < w.heap.size) w v :=
  open_sl_arg Try.underlying40 raw_leaves raw_cellsOf rfl (by omega) raw_bytes (fun _ h => raw_rep h) hv h hs
theorem open_raw {r : Reach} {b0 : Nat} {v : Value} {d : DataW H} {p : List MemPlace} (hv : Value.okWide Try.prog w r b0 67 v) (h : DataW.Trod enc Try.prog w base spare held 67 v d p) :
    ∃ a : Rq, a.Ok ∧ ∃ cs : List Value, v = .agg cs.toArray ∧ RepF w (encRq a) cs := by
  obtain ⟨cs, rfl, hcs⟩ := open_struct Try.underlying67 raw_leaves3 hv h
  obtain ⟨a, ho, ha⟩ := raw_rep hcs
  exact ⟨a, ho, cs, rfl, ha⟩
end
end Go.Proofs.Ytdbbmjdeeenlhaa

/- The walk of the law ConfsTwice. -/
namespace Go.Proofs.Ytdbbmjdeeenlhaa
open Go.ChangeShapes Go.WideShapes Go.ChangeAt Go.RowKit
set_option maxRecDepth 100000

set_option maxHeartbeats 4000000 in
theorem confsTwice_T (l : List Rq) (n : Int) (hok : ∀ r ∈ l, r.Ok) (hn : N64 n) : Fun Try.prog 7 [.fv (slOf encRq l), .fv (.int .i64 n)] (.fv (.bool true)) := by
  have c1 := conf_T l 40 hok (by omega)
  have h := confOf_ok l 40
  have hs := confOf_some l 40
  generalize confOf l 40 = c at *
  have hlen := h.pl
  have hp := picked_T n 50 hn.1 hn.2 (by omega)
  have hk := pick_le (n := n) (m := 50) (by omega)
  generalize pick n 50 = m at *
  have c4 := apply_T c { de0 with kind := 1, sw := ⟨1, 9, 0⟩ } h.fit
  rw [twice4 h hs] at c4
  generalize applyR c { de0 with kind := 1, sw := ⟨1, 9, 0⟩ } = R4 at *
  have c5 := apply_T c { de0 with kind := 2, po := ⟨999, 400, 1, 1, 0⟩ } h.fit
  rw [twice5 h hs] at c5
  generalize applyR c { de0 with kind := 2, po := ⟨999, 400, 1, 1, 0⟩ } = R5 at *
  refine Fun.body tbl_ok Try.func7 rfl (by kernel_rfl) rfl rfl rfl ?_
  repeat' (first
    | (apply X.loE; (· exact aR); (· first | exact .callL rfl rfl rfl (c1) rfl | (apply LEff.callBL; (· rfl); (· rfl); (· exact c1); (· exact aB); (· rfl))))
    | refine X.loc ?_
    | refine nx ?_
    | refine X.cdT ?_
    | refine X.cdF ?_
    | (refine WP.condBit rfl ?_ ?_)
    | (refine WP.cond rfl ?_ ?_ <;> intro hcond)
    | (apply X.gsE; (· exact aR); (· exact aV); (· exact aW); (· intro hc; first | exact .callG rfl rfl rfl (c1) rfl | (apply LEff.callBG; (· rfl); (· rfl); (· exact c1); (· exact aB); (· rfl))); (· exact aR))
    | refine X.gst ?_ | refine X.gld ?_ | refine X.new ?_ | refine X.app ?_ | refine X.appS ?_ | refine X.stoW ?_ | refine X.stoB ?_ | refine X.stoR ?_ | refine X.gand ?_ | refine X.gor ?_
    | refine nd ?_
    | ((with_reducible apply drwK.mk); (· kernel_rfl); (· exact aF))
    | fail)
  refine WP.loop (ι := Nat) (fun k => ⟨[(1, .fv (.int .i64 n)), (5, .optr 5 0), (22, .fv (slOf encPo c.ps)), (23, .fv (.int .i64 c.ps.length)), (24, .fv (.int .i64 k))], [(5, .box 50 ((encCf c).map .fv))]⟩) (fun k => k ≤ c.ps.length) (fun k => c.ps.length - k) 0 (by omega) ?_ ?_
  · skip
    refine St.to [] [] rfl rfl ?_ ?_ <;> (repeat' (first | exact tA | refine t1 ?_ | exact tB | refine t2 ?_ ?_ | refine t3 ?_ | refine t4 ?_ ?_ | refine .ofEq ?_ | refine OB.To.cut rfl rfl ?_ ?_ ?_ ?_ | refine OB.To.box rfl rfl ?_ | refine ⟨⟨_, rfl, ?_⟩, ?_⟩ | refine ⟨?_, ?_⟩ | fail))
  rintro k hkl
  try dsimp only
  by_cases hlt : k < c.ps.length
  case neg =>
    repeat' (first
      | (apply X.loE; (· exact aR); (· first | exact .callL rfl rfl rfl (by first | exact c4 | exact c5) rfl | (apply LEff.callBL; (· rfl); (· rfl); (· exact c4); (· exact aB); (· rfl)) | (apply LEff.callBL; (· rfl); (· rfl); (· exact c5); (· exact aB); (· rfl))))
      | refine X.loc ?_
      | refine nx ?_
      | refine X.cdT ?_
      | refine X.cdF ?_
      | (refine WP.condBit rfl ?_ ?_)
      | (refine WP.cond rfl ?_ ?_ <;> intro hcond)
      | (apply X.gsE; (· exact aR); (· exact aV); (· exact aW); (· intro hc; first | exact .callG rfl rfl rfl (by first | exact c4 | exact c5) rfl | (apply LEff.callBG; (· rfl); (· rfl); (· exact c4); (· exact aB); (· rfl)) | (apply LEff.callBG; (· rfl); (· rfl); (· exact c5); (· exact aB); (· rfl))); (· exact aR))
      | refine X.gst ?_ | refine X.gld ?_ | refine X.new ?_ | refine X.app ?_ | refine X.appS ?_ | refine X.stoW ?_ | refine X.stoB ?_ | refine X.stoR ?_ | refine X.gand ?_ | refine X.gor ?_
      | refine nd ?_
      | ((with_reducible apply drwK.mk); (· kernel_rfl); (· exact aF))
      | fail)
    exact .f1 (.inl rfl) rfl rfl
  case pos =>
    obtain ⟨x, hx⟩ : ∃ x, c.ps[k]? = some x := ⟨_, List.getElem?_eq_getElem hlt⟩
    have hxm := List.mem_of_getElem? hx
    have m1 := apply_T c { de0 with kind := 2, po := x } h.fit
    rw [twice1 h hxm] at m1
    generalize applyR c { de0 with kind := 2, po := x } = R1 at *
    have m2 := apply_T c { de0 with kind := 2, po := { x with id := 900 + m } } h.fit
    rw [twice2 h hxm hk] at m2
    generalize applyR c { de0 with kind := 2, po := { x with id := 900 + m } } = R2 at *
    have m3 := apply_T c { de0 with kind := 2, po := { x with id := 900 + m, mac := 5000 } } h.fit
    rw [twice3 h hxm hk] at m3
    generalize applyR c { de0 with kind := 2, po := { x with id := 900 + m, mac := 5000 } } = R3 at *
    repeat' (first
      | (apply X.loE; (· exact aR); (· first | exact .callL rfl rfl rfl (by first | exact hp | exact m1 | exact m2 | exact m3) rfl | (apply LEff.callBL; (· rfl); (· rfl); (· exact hp); (· exact aB); (· rfl)) | (apply LEff.callBL; (· rfl); (· rfl); (· exact m1); (· exact aB); (· rfl)) | (apply LEff.callBL; (· rfl); (· rfl); (· exact m2); (· exact aB); (· rfl)) | (apply LEff.callBL; (· rfl); (· rfl); (· exact m3); (· exact aB); (· rfl))))
      | refine X.loc ?_
      | refine nx ?_
      | refine X.cdT ?_
      | refine X.cdF ?_
      | (refine WP.condBit rfl ?_ ?_)
      | (refine WP.cond rfl ?_ ?_ <;> intro hcond)
      | (apply X.gsE; (· exact aR); (· exact aV); (· exact aW); (· intro hc; first | exact .callG rfl rfl rfl (by first | exact hp | exact m1 | exact m2 | exact m3) rfl | (apply LEff.callBG; (· rfl); (· rfl); (· exact hp); (· exact aB); (· rfl)) | (apply LEff.callBG; (· rfl); (· rfl); (· exact m1); (· exact aB); (· rfl)) | (apply LEff.callBG; (· rfl); (· rfl); (· exact m2); (· exact aB); (· rfl)) | (apply LEff.callBG; (· rfl); (· rfl); (· exact m3); (· exact aB); (· rfl))); (· exact aR))
      | refine X.gst ?_ | refine X.gld ?_ | refine X.new ?_ | refine X.app ?_ | refine X.appS ?_ | refine X.stoW ?_ | refine X.stoB ?_ | refine X.stoR ?_ | refine X.gand ?_ | refine X.gor ?_
      | refine nd ?_
      | ((with_reducible apply drwK.mk); (· kernel_rfl); (· exact aF))
      | fail)
    refine ⟨k + 1, by omega, by omega, ?_⟩
    refine St.to [] [] rfl rfl ?_ ?_ <;> (repeat' (first | exact tA | refine t1 ?_ | exact tB | refine t2 ?_ ?_ | refine t3 ?_ | refine t4 ?_ ?_ | refine .ofEq ?_ | refine OB.To.cut rfl rfl ?_ ?_ ?_ ?_ | refine OB.To.box rfl rfl ?_ | refine ⟨⟨_, rfl, ?_⟩, ?_⟩ | refine ⟨?_, ?_⟩ | fail))
theorem confsTwice_open {H : Type} {enc : TypeId × Value → H} (W : World) (base : Nat) {v0 v1 : Value} {d0 d1 : DataW H} {p0 p1 : List MemPlace} (hv0 : Value.okWide Try.prog W .any base 40 v0)
    (h0 : DataW.Trod enc Try.prog W 0 (fun _ => true) true 40 v0 d0 p0) (hs0 : SizedCl Try.prog 40 d0) (hv1 : Value.okWide Try.prog W .any base 3 v1)
    (h1 : DataW.Trod enc Try.prog W 0 (fun _ => true) true 3 v1 d1 p1) (_hs1 : SizedCl Try.prog 3 d1) : Calls Try.prog 7 #[v0, v1] W fun e W' => e = .returned (.bool true) ∧ Below W.heap.size W W' := by
  obtain ⟨l, hl, _, hr⟩ := open_raws hv0 h0 hs0
  obtain ⟨n, rfl, _, _, hw⟩ := open_int Try.underlying3 hv1 h1
  exact (confsTwice_T l n hl (i64_of_wf hw)).yes ⟨hr, rfl, trivial⟩
end Go.Proofs.Ytdbbmjdeeenlhaa
