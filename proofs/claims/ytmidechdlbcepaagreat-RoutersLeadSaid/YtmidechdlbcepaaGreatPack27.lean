import Derived.Test.YtmidechdlbcepaaGreatPack26
import Derived.Test.YtmidechdlbcepaaGreatPack21
import Derived.Test.YtmidechdlbcepaaGreatPack20
import Derived.Test.YtmidechdlbcepaaGreatPack23
import Derived.Test.YtmidechdlbcepaaGreatPack19
import Derived.Test.YtmidechdlbcepaaGreatPack06
import Derived.Test.YtmidechdlbcepaaGreatPack22
set_option linter.unusedSimpArgs false
set_option linter.unusedVariables false
namespace Go.Proofs.YtmidechdlbcepaaGreat
open Go.RowKit
set_option maxRecDepth 100000

theorem take_snoc {α : Type} {l : List α} {k : Nat} {x : α} (h : l[k]? = some x) : l.take (k + 1) = l.take k ++ [x] := by
  rw [List.take_add_one, h]
  rfl
theorem drop_at {α : Type} {l : List α} {k : Nat} {x : α} (hx : l[k]? = some x) : l.drop k = x :: l.drop (k + 1) := by
  have hlt := (List.getElem?_eq_some_iff.1 hx).1
  rw [List.drop_eq_getElem_cons hlt, (List.getElem?_eq_some_iff.1 hx).2]
theorem sws_at {l : List Sw} {k : Nat} {x : Sw} {ps : List Po} {acs : List Ac} (hx : l[k]? = some x) : swsMay ⟨l.take k, ps, acs⟩ (l.drop k) = (decide (swFault ⟨l.take k, ps, acs⟩ x = 0) && swsMay ⟨l.take (k + 1), ps, acs⟩ (l.drop (k + 1))) := by
  rw [drop_at hx, swsMay, take_snoc hx]
theorem pos_at {l : List Po} {k : Nat} {x : Po} {ss : List Sw} {acs : List Ac} (hx : l[k]? = some x) : posMay ⟨ss, l.take k, acs⟩ (l.drop k) = (decide (poFault ⟨ss, l.take k, acs⟩ x = 0) && posMay ⟨ss, l.take (k + 1), acs⟩ (l.drop (k + 1))) := by
  rw [drop_at hx, posMay, take_snoc hx]
theorem acs_at {l : List Ac} {k : Nat} {x : Ac} {ss : List Sw} {ps : List Po} (hx : l[k]? = some x) : acsMay ⟨ss, ps, l.take k⟩ (l.drop k) = (decide (acFault ⟨ss, ps, l.take k⟩ x = 0) && acsMay ⟨ss, ps, l.take (k + 1)⟩ (l.drop (k + 1))) := by
  rw [drop_at hx, acsMay, take_snoc hx]
theorem cut_small {c : Cf} (hl : c.Small) (i j k : Nat) : Cf.Small ⟨c.ss.take i, c.ps.take j, c.acs.take k⟩ :=
  ⟨Nat.lt_of_le_of_lt (List.length_take_le' _ _) hl.1, Nat.lt_of_le_of_lt (List.length_take_le' _ _) hl.2.1, Nat.lt_of_le_of_lt (List.length_take_le' _ _) hl.2.2⟩
theorem int_ne {a : Int} (h : (a != 0) = true) : a ≠ 0 := by simpa using h
theorem int_eq {a : Int} (h : (a != 0) = false) : a = 0 := by simpa using h

set_option maxHeartbeats 4000000 in
theorem confCheck_T (c : Cf) (hl : c.Small) : Fun Tryz.prog 36 [.agg ((encCf c).map .fv)] (.fv (.int .i64 (if cfMay c = true then 0 else 8))) := by
  have hl1 := hl.1
  have hl2 := hl.2.1
  have hl3 := hl.2.2
  refine Fun.body tbl_ok Tryz.func36 rfl (by kernel_rfl) rfl rfl rfl ?_
  repeat' (first | refine X.loc ?_ | refine nx ?_ | (refine WP.condBit rfl ?_ ?_) | (refine WP.cond rfl ?_ ?_ <;> intro hcond) | refine rb ?_ | refine nd ?_ | refine dk ?_ | fail)
  refine WP.loop (ι := Nat) (fun k => ⟨[(1, .optr 1 0), (3, .optr 3 0), (12, .fv (slOf encSw c.ss)), (13, .fv (.int .i64 c.ss.length)), (14, .fv (.int .i64 k))], [ (1, .box 26 ((encCf c).map .fv)), (3, .box 26 [.osl 900, .nil, .nil]), (900, .row 44 3 (c.ss.take k).length (((c.ss.take k).flatMap encSw).map .fv))]⟩)
    (fun k => k ≤ c.ss.length ∧ k ≤ 12 ∧ swsMay ⟨[], [], []⟩ c.ss = swsMay ⟨c.ss.take k, [], []⟩ (c.ss.drop k)) (fun k => c.ss.length - k) 0 ⟨by omega, by omega, rfl⟩ ?_ ?_
  · skip
    refine St.to [(900, .nil)] [] rfl rfl ?_ ?_ <;> (repeat' (first | exact tA | refine t1 ?_ | exact tB | refine t2 ?_ ?_ | refine t3 ?_ | refine t4 ?_ ?_ | refine .ofEq ?_ | refine OB.To.cut rfl rfl ?_ ?_ ?_ ?_ | refine OB.To.box rfl rfl ?_ | refine ⟨⟨_, rfl, ?_⟩, ?_⟩ | refine ⟨?_, ?_⟩ | fail))
  rintro k ⟨hk, hk12, hd⟩
  try dsimp only
  have hlen : (c.ss.take k).length ≤ 12 := by simp; omega
  by_cases hlt : k < c.ss.length
  case pos =>
    obtain ⟨x, hx⟩ : ∃ x, c.ss[k]? = some x := ⟨_, List.getElem?_eq_getElem hlt⟩
    have hat := sws_at (ps := []) (acs := []) hx
    have hsm : Cf.Small ⟨c.ss.take k, [], []⟩ := by have := cut_small hl k 0 0; simpa using this
    repeat' (first | (apply X.loE; (· exact aR); (· first | (exact .eff (.idxS rfl rfl rfl encSw_len hx)) | exact .callL rfl rfl rfl (addSwitch_T ⟨c.ss.take k, [], []⟩ x hsm (by intro p hp; simp at hp) hlen) rfl | exact bl (addSwitch_T ⟨c.ss.take k, [], []⟩ x hsm (by intro p hp; simp at hp) hlen))) | refine X.loc ?_ | refine nx ?_ | (refine WP.condBit rfl ?_ ?_) | (refine WP.cond rfl ?_ ?_ <;> intro hcond) | (apply X.gsE; (· exact aR); (· exact aV); (· exact aW); (· intro hc; first | (exact .eff (.idxS rfl rfl rfl encSw_len hx)) | exact .callG rfl rfl rfl (addSwitch_T ⟨c.ss.take k, [], []⟩ x hsm (by intro p hp; simp at hp) hlen) rfl | exact bg (addSwitch_T ⟨c.ss.take k, [], []⟩ x hsm (by intro p hp; simp at hp) hlen)); (· exact aR)) | refine rb ?_ | refine nd ?_ | refine dk ?_ | fail)
    · refine .f1 (.inl rfl) rfl ?_
      have : cfMay c = false := by
        unfold cfMay
        rw [hd, hat, decide_eq_false (int_ne hcond)]
        rfl
      rw [this]
      rfl
    · have h0 := int_eq hcond
      have := swFault_lt h0
      refine ⟨k + 1, ⟨by omega, by simp at this; omega, ?_⟩, by omega, ?_⟩
      · rw [hd, hat, decide_eq_true h0]
        rfl
      · skip
        refine St.to [(900, .id 26)] [] rfl rfl ?_ ?_ <;> (repeat' (first | exact tA | refine t1 ?_ | exact tB | refine t2 ?_ ?_ | refine t3 ?_ | refine t4 ?_ ?_ | refine .ofEq ?_ | refine OB.To.cut rfl rfl ?_ ?_ ?_ ?_ | refine OB.To.box rfl rfl ?_ | refine ⟨⟨_, rfl, ?_⟩, ?_⟩ | refine ⟨?_, ?_⟩ | fail))
        all_goals first | exact (take_len hx).symm | (rw [take_flat hx, List.map_append]; rfl)
    · exfalso
      simp at hcond
      omega
  case neg =>
    have hek : k = c.ss.length := by omega
    subst hek
    rw [List.drop_of_length_le (Nat.le_refl _)] at hd
    have hsw : swsMay ⟨[], [], []⟩ c.ss = true := hd
    repeat' (first | refine X.loc ?_ | refine nx ?_ | (refine WP.condBit rfl ?_ ?_) | (refine WP.cond rfl ?_ ?_ <;> intro hcond) | refine rb ?_ | refine nd ?_ | refine dk ?_ | fail)
    · exfalso
      simp at hcond
    refine WP.loop (ι := Nat) (fun k => ⟨[(1, .optr 1 0), (3, .optr 3 0), (30, .fv (slOf encPo c.ps)), (31, .fv (.int .i64 c.ps.length)), (32, .fv (.int .i64 k))], [ (1, .box 26 ((encCf c).map .fv)), (3, .box 26 [.osl 900, .osl 901, .nil]), (900, .row 44 3 c.ss.length ((c.ss.flatMap encSw).map .fv)), (901, .row 69 5 (c.ps.take k).length (((c.ps.take k).flatMap encPo).map .fv))]⟩)
      (fun k => k ≤ c.ps.length ∧ k ≤ 40 ∧ Cf.Wf ⟨c.ss, c.ps.take k, []⟩ ∧ posMay ⟨c.ss, [], []⟩ c.ps = posMay ⟨c.ss, c.ps.take k, []⟩ (c.ps.drop k)) (fun k => c.ps.length - k) 0 ⟨by omega, by omega, (by intro p hp; simp at hp), rfl⟩ ?_ ?_
    · skip
      refine St.to [(901, .nil)] [] rfl rfl ?_ ?_ <;> (repeat' (first | exact tA | refine t1 ?_ | exact tB | refine t2 ?_ ?_ | refine t3 ?_ | refine t4 ?_ ?_ | refine .ofEq ?_ | refine OB.To.cut rfl rfl ?_ ?_ ?_ ?_ | refine OB.To.box rfl rfl ?_ | refine ⟨⟨_, rfl, ?_⟩, ?_⟩ | refine ⟨?_, ?_⟩ | fail))
      all_goals rw [List.take_of_length_le (Nat.le_refl _)]
    rintro k ⟨hk, hk40, hwf, hd⟩
    try dsimp only
    have hlen : (c.ps.take k).length ≤ 40 := by simp; omega
    by_cases hlt : k < c.ps.length
    case pos =>
      obtain ⟨x, hx⟩ : ∃ x, c.ps[k]? = some x := ⟨_, List.getElem?_eq_getElem hlt⟩
      have hat := pos_at (ss := c.ss) (acs := []) hx
      have hsm : Cf.Small ⟨c.ss, c.ps.take k, []⟩ := by have := cut_small hl c.ss.length k 0; simpa using this
      repeat' (first | (apply X.loE; (· exact aR); (· first | (exact .eff (.idxS rfl rfl rfl encPo_len hx)) | exact .callL rfl rfl rfl (addPort_T ⟨c.ss, c.ps.take k, []⟩ x hsm hwf hlen) rfl | exact bl (addPort_T ⟨c.ss, c.ps.take k, []⟩ x hsm hwf hlen))) | refine X.loc ?_ | refine nx ?_ | (refine WP.condBit rfl ?_ ?_) | (refine WP.cond rfl ?_ ?_ <;> intro hcond) | (apply X.gsE; (· exact aR); (· exact aV); (· exact aW); (· intro hc; first | (exact .eff (.idxS rfl rfl rfl encPo_len hx)) | exact .callG rfl rfl rfl (addPort_T ⟨c.ss, c.ps.take k, []⟩ x hsm hwf hlen) rfl | exact bg (addPort_T ⟨c.ss, c.ps.take k, []⟩ x hsm hwf hlen)); (· exact aR)) | refine rb ?_ | refine nd ?_ | refine dk ?_ | fail)
      · refine .f1 (.inl rfl) rfl ?_
        have : cfMay c = false := by
          unfold cfMay
          rw [hd, hat, decide_eq_false (int_ne hcond), hsw]
          rfl
        rw [this]
        rfl
      · have h0 := int_eq hcond
        have := poFault_lt h0
        refine ⟨k + 1, ⟨by omega, by have := this.1; simp at this; omega, ?_, ?_⟩, by omega, ?_⟩
        · exact take_all (p := fun p : Po => c.ss.any (fun x => x.id == p.sw) = true) hx hwf this.2
        · rw [hd, hat, decide_eq_true h0]
          rfl
        · skip
          refine St.to [(901, .id 44)] [] rfl rfl ?_ ?_ <;> (repeat' (first | exact tA | refine t1 ?_ | exact tB | refine t2 ?_ ?_ | refine t3 ?_ | refine t4 ?_ ?_ | refine .ofEq ?_ | refine OB.To.cut rfl rfl ?_ ?_ ?_ ?_ | refine OB.To.box rfl rfl ?_ | refine ⟨⟨_, rfl, ?_⟩, ?_⟩ | refine ⟨?_, ?_⟩ | fail))
          all_goals first | exact (take_len hx).symm | (rw [take_flat hx, List.map_append]; rfl)
      · exfalso
        simp at hcond
        omega
    case neg =>
      have hek : k = c.ps.length := by omega
      subst hek
      rw [List.drop_of_length_le (Nat.le_refl _)] at hd
      have hpo : posMay ⟨c.ss, [], []⟩ c.ps = true := hd
      repeat' (first | refine X.loc ?_ | refine nx ?_ | (refine WP.condBit rfl ?_ ?_) | (refine WP.cond rfl ?_ ?_ <;> intro hcond) | refine rb ?_ | refine nd ?_ | refine dk ?_ | fail)
      · exfalso
        simp at hcond
      refine WP.loop (ι := Nat) (fun k => ⟨[(1, .optr 1 0), (3, .optr 3 0), (48, .fv (slOf encAc c.acs)), (49, .fv (.int .i64 c.acs.length)), (50, .fv (.int .i64 k))], [ (1, .box 26 ((encCf c).map .fv)), (3, .box 26 [.osl 900, .osl 901, .osl 902]), (900, .row 44 3 c.ss.length ((c.ss.flatMap encSw).map .fv)), (901, .row 69 5 c.ps.length ((c.ps.flatMap encPo).map .fv)), (902, .row 38 9 (c.acs.take k).length (((c.acs.take k).flatMap encAc).map .fv))]⟩)
        (fun k => k ≤ c.acs.length ∧ k ≤ 40 ∧ acsMay ⟨c.ss, c.ps, []⟩ c.acs = acsMay ⟨c.ss, c.ps, c.acs.take k⟩ (c.acs.drop k)) (fun k => c.acs.length - k) 0 ⟨by omega, by omega, rfl⟩ ?_ ?_
      · skip
        refine St.to [(902, .nil)] [] rfl rfl ?_ ?_ <;> (repeat' (first | exact tA | refine t1 ?_ | exact tB | refine t2 ?_ ?_ | refine t3 ?_ | refine t4 ?_ ?_ | refine .ofEq ?_ | refine OB.To.cut rfl rfl ?_ ?_ ?_ ?_ | refine OB.To.box rfl rfl ?_ | refine ⟨⟨_, rfl, ?_⟩, ?_⟩ | refine ⟨?_, ?_⟩ | fail))
        all_goals rw [List.take_of_length_le (Nat.le_refl _)]
      rintro k ⟨hk, hk40, hd⟩
      try dsimp only
      have hlen : (c.acs.take k).length ≤ 40 := by simp; omega
      by_cases hlt : k < c.acs.length
      case pos =>
        obtain ⟨x, hx⟩ : ∃ x, c.acs[k]? = some x := ⟨_, List.getElem?_eq_getElem hlt⟩
        have hat := acs_at (ss := c.ss) (ps := c.ps) hx
        have hsm : Cf.Small ⟨c.ss, c.ps, c.acs.take k⟩ := by have := cut_small hl c.ss.length c.ps.length k; simpa using this
        repeat' (first | (apply X.loE; (· exact aR); (· first | (exact .eff (.idxS rfl rfl rfl encAc_len hx)) | exact .callL rfl rfl rfl (addAcl_T ⟨c.ss, c.ps, c.acs.take k⟩ x hsm hlen) rfl | exact bl (addAcl_T ⟨c.ss, c.ps, c.acs.take k⟩ x hsm hlen))) | refine X.loc ?_ | refine nx ?_ | (refine WP.condBit rfl ?_ ?_) | (refine WP.cond rfl ?_ ?_ <;> intro hcond) | (apply X.gsE; (· exact aR); (· exact aV); (· exact aW); (· intro hc; first | (exact .eff (.idxS rfl rfl rfl encAc_len hx)) | exact .callG rfl rfl rfl (addAcl_T ⟨c.ss, c.ps, c.acs.take k⟩ x hsm hlen) rfl | exact bg (addAcl_T ⟨c.ss, c.ps, c.acs.take k⟩ x hsm hlen)); (· exact aR)) | refine rb ?_ | refine nd ?_ | refine dk ?_ | fail)
        · refine .f1 (.inl rfl) rfl ?_
          have : cfMay c = false := by
            unfold cfMay
            rw [hd, hat, decide_eq_false (int_ne hcond), hsw, hpo]
            rfl
          rw [this]
          rfl
        · have h0 := int_eq hcond
          have := acFault_lt h0
          refine ⟨k + 1, ⟨by omega, by simp at this; omega, ?_⟩, by omega, ?_⟩
          · rw [hd, hat, decide_eq_true h0]
            rfl
          · skip
            refine St.to [(902, .id 62)] [] rfl rfl ?_ ?_ <;> (repeat' (first | exact tA | refine t1 ?_ | exact tB | refine t2 ?_ ?_ | refine t3 ?_ | refine t4 ?_ ?_ | refine .ofEq ?_ | refine OB.To.cut rfl rfl ?_ ?_ ?_ ?_ | refine OB.To.box rfl rfl ?_ | refine ⟨⟨_, rfl, ?_⟩, ?_⟩ | refine ⟨?_, ?_⟩ | fail))
            all_goals first | exact (take_len hx).symm | (rw [take_flat hx, List.map_append]; rfl)
        · exfalso
          simp at hcond
          omega
      case neg =>
        have hek : k = c.acs.length := by omega
        subst hek
        rw [List.drop_of_length_le (Nat.le_refl _)] at hd
        have hac : acsMay ⟨c.ss, c.ps, []⟩ c.acs = true := hd
        have hall : cfMay c = true := by
          unfold cfMay
          rw [hsw, hpo, hac]
          rfl
        repeat' (first | refine X.loc ?_ | refine nx ?_ | (refine WP.condBit rfl ?_ ?_) | (refine WP.cond rfl ?_ ?_ <;> intro hcond) | refine rb ?_ | refine nd ?_ | refine dk ?_ | fail)
        · exfalso
          simp at hcond
        · refine .f1 (.inl rfl) rfl ?_
          rw [hall]
          rfl
end Go.Proofs.YtmidechdlbcepaaGreat

namespace Go.Proofs.YtmidechdlbcepaaGreat
open Go.RowKit
set_option maxRecDepth 100000

end Go.Proofs.YtmidechdlbcepaaGreat

namespace Go.Proofs.YtmidechdlbcepaaGreat
open Go.RowKit
set_option maxRecDepth 100000

theorem clonePo_T (l : List Po) (hl : l.length * 40 ≤ 140737488355328) : FunO Tryz.prog 61 [.fv (slOf encPo l)] [] (.osl 7) [(7, .row 69 5 l.length ((l.flatMap encPo).map .fv))] := by
  refine FunO.bodyL tbl_ok Tryz.func61 rfl (by kernel_rfl) rfl rfl rfl ?_
  rcases Nat.eq_zero_or_pos l.length with h0 | h0
  · obtain rfl := List.eq_nil_of_length_eq_zero h0
    repeat' (first | refine X.loc ?_ | refine nx ?_ | (refine WP.condBit rfl ?_ ?_) | (refine WP.cond rfl ?_ ?_ <;> intro hcond) | refine rb ?_ | refine nd ?_ | refine dk ?_ | fail)
    · skip
      refine .ofL (s' := ⟨[(2, .osl 7)], [(7, .row 69 5 0 [])]⟩) (by first | exact .inl rfl | exact .inr rfl) ?_ rfl rfl (by repeat' (first | exact trivial | refine ⟨⟨_, rfl, fun _ _ _ _ h => h⟩, ?_⟩))
      refine St.to [(7, .nil)] [] rfl rfl ?_ ?_ <;> (repeat' (first | exact tA | refine t1 ?_ | exact tB | refine t2 ?_ ?_ | refine t3 ?_ | refine t4 ?_ ?_ | refine .ofEq ?_ | refine OB.To.cut rfl rfl ?_ ?_ ?_ ?_ | refine OB.To.box rfl rfl ?_ | refine ⟨⟨_, rfl, ?_⟩, ?_⟩ | refine ⟨?_, ?_⟩ | fail))
    · skip
      refine .ofL (s' := ⟨[(2, .osl 7)], [(7, .row 69 5 0 [])]⟩) (by first | exact .inl rfl | exact .inr rfl) ?_ rfl rfl (by repeat' (first | exact trivial | refine ⟨⟨_, rfl, fun _ _ _ _ h => h⟩, ?_⟩))
      refine St.to [(7, .id 7)] [] rfl rfl ?_ ?_ <;> (repeat' (first | exact tA | refine t1 ?_ | exact tB | refine t2 ?_ ?_ | refine t3 ?_ | refine t4 ?_ ?_ | refine .ofEq ?_ | refine OB.To.cut rfl rfl ?_ ?_ ?_ ?_ | refine OB.To.box rfl rfl ?_ | refine ⟨⟨_, rfl, ?_⟩, ?_⟩ | refine ⟨?_, ?_⟩ | fail))
      rfl
  · skip
    repeat' (first | refine X.loc ?_ | refine nx ?_ | (refine WP.condBit rfl ?_ ?_) | (refine WP.cond rfl ?_ ?_ <;> intro hcond) | refine rb ?_ | refine nd ?_ | refine dk ?_ | fail)
    refine .ofL (s' := ⟨[(2, .osl 7)], [(7, .row 69 5 l.length ((l.flatMap encPo).map .fv))]⟩) (by first | exact .inl rfl | exact .inr rfl) ?_ rfl rfl (by repeat' (first | exact trivial | refine ⟨⟨_, rfl, fun _ _ _ _ h => h⟩, ?_⟩))
    refine St.to [(7, .id 7)] [] rfl rfl ?_ ?_ <;> (repeat' (first | exact tA | refine t1 ?_ | exact tB | refine t2 ?_ ?_ | refine t3 ?_ | refine t4 ?_ ?_ | refine .ofEq ?_ | refine OB.To.cut rfl rfl ?_ ?_ ?_ ?_ | refine OB.To.box rfl rfl ?_ | refine ⟨⟨_, rfl, ?_⟩, ?_⟩ | refine ⟨?_, ?_⟩ | fail))
    all_goals first | omega | simp
def Cf.Fit (c : Cf) : Prop := c.ss.length * 24 ≤ 140737488355328 ∧ c.ps.length * 40 ≤ 140737488355328 ∧ c.acs.length * 72 ≤ 140737488355328
theorem Cf.Fit.small {c : Cf} (h : c.Fit) : c.Small := by
  obtain ⟨h1, h2, h3⟩ := h
  exact ⟨by omega, by omega, by omega⟩
theorem clr_cells {cs1 us cs2 : List AV} {n : Nat} (h : setC cs1 n us = some cs2) : cs2.take n = cs1.take n := by
  obtain ⟨h1, rfl⟩ := setC_eq h
  rw [List.append_assoc, List.take_append_of_le_length (by rw [List.length_take]; omega), List.take_take, Nat.min_self]

end Go.Proofs.YtmidechdlbcepaaGreat

namespace Go.Proofs.YtmidechdlbcepaaGreat
open Go.RowKit
set_option maxRecDepth 100000

theorem is_T (a b : Int) : Fun Tryz.prog 128 [.fv (.int .i64 a), .fv (.int .i64 b)] (.agg ((encMx ⟨a, 65535, b⟩).map .fv)) := by
  refine Fun.body tbl_ok Tryz.func128 rfl (by kernel_rfl) rfl rfl rfl ?_
  repeat' (first | refine X.loc ?_ | refine nx ?_ | (refine WP.condBit rfl ?_ ?_) | (refine WP.cond rfl ?_ ?_ <;> intro hcond) | refine rb ?_ | refine nd ?_ | refine dk ?_ | fail)
  exact .fun (.inl rfl) rfl rfl
theorem to_T (a : Int) : Fun Tryz.prog 129 [.fv (.int .i64 a)] (.agg ((encDx ⟨4, 0, a⟩).map .fv)) := by
  refine Fun.body tbl_ok Tryz.func129 rfl (by kernel_rfl) rfl rfl rfl ?_
  repeat' (first | refine X.loc ?_ | refine nx ?_ | (refine WP.condBit rfl ?_ ?_) | (refine WP.cond rfl ?_ ?_ <;> intro hcond) | refine rb ?_ | refine nd ?_ | refine dk ?_ | fail)
  exact .fun (.inl rfl) rfl rfl
theorem put_T (a b : Int) : Fun Tryz.prog 131 [.fv (.int .i64 a), .fv (.int .i64 b)] (.agg ((encDx ⟨1, a, b⟩).map .fv)) := by
  refine Fun.body tbl_ok Tryz.func131 rfl (by kernel_rfl) rfl rfl rfl ?_
  repeat' (first | refine X.loc ?_ | refine nx ?_ | (refine WP.condBit rfl ?_ ?_) | (refine WP.cond rfl ?_ ?_ <;> intro hcond) | refine rb ?_ | refine nd ?_ | refine dk ?_ | fail)
  exact .fun (.inl rfl) rfl rfl
theorem copied_T (a b : Int) : Fun Tryz.prog 136 [.fv (.int .i64 a), .fv (.int .i64 b)] (.agg ((encDx ⟨2, a, b⟩).map .fv)) := by
  refine Fun.body tbl_ok Tryz.func136 rfl (by kernel_rfl) rfl rfl rfl ?_
  repeat' (first | refine X.loc ?_ | refine nx ?_ | (refine WP.condBit rfl ?_ ?_) | (refine WP.cond rfl ?_ ?_ <;> intro hcond) | refine rb ?_ | refine nd ?_ | refine dk ?_ | fail)
  exact .fun (.inl rfl) rfl rfl
def mkC (c : Cf) (ch : Int) (l : AV) : List AV := (encCf c).map .fv ++ [.fv (.int .i64 ch), l]
def mkB (c : Cf) (ch : Int) (g : Nat) : OB := .box 153 (mkC c ch (.osl g))
def flR (L : List Fl) : OB := .row 108 4 L.length ((L.flatMap encFl).map .fv)
theorem add_T (c : Cf) (ch : Int) (L : List Fl) (f : Fl) (hL : (L.length + 1) * 64 ≤ 140737488355328) : FunO Tryz.prog 127 [.optr 1000 0, .fv (.int .i64 f.table), .fv (.int .i64 f.prio), .fv (slOf encMx f.ms), .fv (slOf encDx f.ds)] [(1000, mkB c ch 1001), (1001, flR L)] (.tup []) [(1000, mkB c ch 7), (7, flR (L ++ [f]))] := by
  refine FunO.bodyL tbl_ok Tryz.func127 rfl (by kernel_rfl) rfl rfl rfl ?_
  unfold mkB flR mkC
  repeat' (first | refine X.loc ?_ | refine nx ?_ | refine X.cdT ?_ | refine X.cdF ?_ | (refine WP.condBit rfl ?_ ?_) | (refine WP.cond rfl ?_ ?_ <;> intro hcond) | refine rb ?_ | refine nd ?_ | refine dk ?_ | fail)
  refine .ofL (s' := ⟨[], [(1000, .box 153 ((encCf c).map .fv ++ [.fv (.int .i64 ch), .osl 7])), (7, .row 108 4 (L ++ [f]).length (((L ++ [f]).flatMap encFl).map .fv))]⟩) (by first | exact .inl rfl | exact .inr rfl) ?_ rfl rfl (by repeat' (first | exact trivial | refine ⟨⟨_, rfl, fun _ _ _ _ h => h⟩, ?_⟩))
  refine St.to [(7, .id 21)] [] rfl rfl ?_ ?_ <;> (repeat' (first | exact tA | refine t1 ?_ | exact tB | refine t2 ?_ ?_ | refine t3 ?_ | refine t4 ?_ ?_ | refine .ofEq ?_ | refine OB.To.cut rfl rfl ?_ ?_ ?_ ?_ | refine OB.To.box rfl rfl ?_ | refine ⟨⟨_, rfl, ?_⟩, ?_⟩ | refine ⟨?_, ?_⟩ | fail))
  all_goals first | omega | (simp; done) | (simp only [List.flatMap_append, List.map_append]; rfl)
end Go.Proofs.YtmidechdlbcepaaGreat

namespace Go.Proofs.YtmidechdlbcepaaGreat
open Go.RowKit
set_option maxRecDepth 100000

theorem size_nil (s : ByteArray) : (!(s.toList == (⟨#[]⟩ : ByteArray).toList)) = decide (s.size ≠ 0) := by
  have h1 : (⟨#[]⟩ : ByteArray).toList = [] := by rw [ByteArray.toList_eq]
  have h2 := toList_isEmpty s
  rw [h1]
  cases h : s.toList with
  | nil => rw [h] at h2; simp at h2; simp [h2]
  | cons a l => rw [h] at h2; simp at h2; simp [h2]
theorem frameFault_b (f : Fr) : frameFault f = if (decide (f.kind < 1) || decide (f.kind > 3)) = true then 3
    else if (!word f.dst || !word f.src || !word f.ipSrc || !word f.ipDst || !word f.port || decide (f.ttl < 0) || decide (f.ttl > 255)) = true then 2
    else if decide ((f.body.size : Int) > 40) = true then 1
    else if (f.kind != 3 && (f.ttl != 0 || f.port != 0 || !f.body.toList == (⟨#[]⟩ : ByteArray).toList)) = true then 4 else 0 := by
  unfold frameFault
  rw [size_nil]
  have e1 : (f.kind < 1 ∨ 3 < f.kind) = ((decide (f.kind < 1) || decide (f.kind > 3)) = true) := by simp
  have e2 : (word f.dst = false ∨ word f.src = false ∨ word f.ipSrc = false ∨ word f.ipDst = false ∨ word f.port = false ∨ f.ttl < 0 ∨ 255 < f.ttl) = ((!word f.dst || !word f.src || !word f.ipSrc || !word f.ipDst || !word f.port || decide (f.ttl < 0) || decide (f.ttl > 255)) = true) := by simp [or_assoc]
  have e3 : (40 < f.body.size) = (decide ((f.body.size : Int) > 40) = true) := by simp; omega
  have e4 : (f.kind ≠ 3 ∧ (f.ttl ≠ 0 ∨ f.port ≠ 0 ∨ f.body.size ≠ 0)) = ((f.kind != 3 && (f.ttl != 0 || f.port != 0 || decide (f.body.size ≠ 0))) = true) := by simp [or_assoc]
  simp only [e1, e2, e3, e4]
set_option maxHeartbeats 2000000 in
theorem wireCheck_T (f : Fr) : Fun Tryz.prog 84 [.agg ((encFr f).map .fv)] (.fv (.int .i64 (frameFault f))) := by
  have hb := frameFault_b f
  refine Fun.body tbl_ok Tryz.func84 rfl (by kernel_rfl) rfl rfl rfl ?_
  repeat' (first | (apply X.loE; (· exact aR); (· first | exact .callL rfl rfl rfl (wword_T _) rfl | exact bl (wword_T _))) | refine X.loc ?_ | refine nx ?_ | (refine WP.condBit rfl ?_ ?_) | (refine WP.cond rfl ?_ ?_ <;> intro hcond) | (apply X.gsE; (· exact aR); (· exact aV); (· exact aW); (· intro hc; first | exact .callG rfl rfl rfl (wword_T _) rfl | exact bg (wword_T _)); (· exact aR)) | refine rb ?_ | refine nd ?_ | refine dk ?_ | fail)
  all_goals
    refine .f1 (.inl rfl) rfl ?_
    rw [hb]
    simp only [*]
    rfl
def l5 (f : Fr) : Nat → Int
  | 0 => f.dst
  | 1 => f.src
  | 2 => f.ipSrc
  | 3 => f.ipDst
  | _ => f.port
def w5 (f : Fr) (k : Nat) : Bool := ([f.dst, f.src, f.ipSrc, f.ipDst, f.port].drop k).all word
end Go.Proofs.YtmidechdlbcepaaGreat

namespace Go.Proofs.YtmidechdlbcepaaGreat
open Go.RowKit
set_option maxRecDepth 100000

theorem encB_len (u : UInt8) : (encB u).length = 1 := rfl
theorem u8_wrap (n : Nat) : IntKind.u8.wrap (n : Int) = ((UInt8.ofNat n).toNat : Int) := by
  simp [IntKind.wrap, IntKind.bits, IntKind.signed]
section
variable {T : Tbl} {ρ : Operand → AV} {H : Own} {d : Nat}
theorem Eff.convB {s t : Nat} {x : Operand} {k'' : IntKind} {n : Nat} (h1 : ρ x = .fv (.int .i64 (n : Int))) (h2 : lk T.kind t = some .u8) (h3 : lk T.kind s = some k'') : Eff T ρ H d (.convert s t x) (.fv (.int .u8 ((UInt8.ofNat n).toNat : Int))) [] := by
  have := Eff.conv (T := T) (H := H) (d := d) h1 h2 h3
  rwa [u8_wrap] at this
theorem Eff.conv8 {s t : Nat} {x : Operand} {k'' : IntKind} {u : UInt8} (h1 : ρ x = .fv (.int .u8 (u.toNat : Int))) (h2 : lk T.kind t = some .i64) (h3 : lk T.kind s = some k'') : Eff T ρ H d (.convert s t x) (.fv (.int .i64 (u.toNat : Int))) [] := by
  have := Eff.conv (T := T) (H := H) (d := d) h1 h2 h3
  have hu := u.toNat_lt
  rwa [I64.wrap (by omega) (by omega)] at this
theorem Eff.shrB {t u : Nat} {x y : Operand} {k' : IntKind} {n : Nat} (h1 : ρ x = .fv (.int .i64 (n : Int))) (h2 : ρ y = .fv (.int k' 8)) : Eff T ρ H d (.binOp .shr t x y u) (.fv (.int .i64 ((n / 256 : Nat) : Int))) [] := by
  have := Eff.shr (T := T) (H := H) (d := d) (t := t) (u := u) h1 h2 (by omega) (by decide)
  rwa [show ((n : Int) / 2 ^ (8 : Int).toNat) = ((n / 256 : Nat) : Int) by rw [Int.natCast_ediv]; rfl] at this
theorem Eff.shrW {t u : Nat} {x y : Operand} {k' : IntKind} {n : Nat} (h1 : ρ x = .fv (.int .i64 (n : Int))) (h2 : ρ y = .fv (.int k' 16)) : Eff T ρ H d (.binOp .shr t x y u) (.fv (.int .i64 ((n / 65536 : Nat) : Int))) [] := by
  have := Eff.shr (T := T) (H := H) (d := d) (t := t) (u := u) h1 h2 (by omega) (by decide)
  rwa [show ((n : Int) / 2 ^ (16 : Int).toNat) = ((n / 65536 : Nat) : Int) by rw [Int.natCast_ediv]; rfl] at this
theorem Eff.shlB {t u : Nat} {x y : Operand} {k' : IntKind} {n : Nat} (h1 : ρ x = .fv (.int .i64 (n : Int))) (h2 : ρ y = .fv (.int k' 8)) (h3 : n ≤ 65535) : Eff T ρ H d (.binOp .shl t x y u) (.fv (.int .i64 ((n * 256 : Nat) : Int))) [] := by
  have := Eff.shl (T := T) (H := H) (d := d) (t := t) (u := u) h1 h2 (by omega) (by decide)
  have e : ((n : Int) * 2 ^ (8 : Int).toNat) = ((n * 256 : Nat) : Int) := by rw [Int.natCast_mul]; rfl
  rwa [e, I64.wrap (by omega) (by omega)] at this
theorem Eff.andW {t u : Nat} {x : Operand} {n : Nat} (h1 : ρ x = .fv (.int .i64 (n : Int))) (h2 : ρ (.const (.int .i64 65535)) = .fv (.int .i64 65535)) (h3 : n ≤ 65280000) : Eff T ρ H d (.binOp .and t x (.const (.int .i64 65535)) u) (.fv (.int .i64 ((n % 65536 : Nat) : Int))) [] := by
  have := Eff.bin (T := T) (H := H) (d := d) (op := .and) (t := t) (u := u) h1 h2 rfl
  rwa [bits_and_word n h3, show (n : Int) % 65536 = ((n % 65536 : Nat) : Int) by omega] at this
theorem Eff.xorW {t u : Nat} {x : Operand} {n : Nat} (h1 : ρ x = .fv (.int .i64 (n : Int))) (h2 : ρ (.const (.int .i64 65535)) = .fv (.int .i64 65535)) (h3 : n ≤ 65535) : Eff T ρ H d (.binOp .xor t x (.const (.int .i64 65535)) u) (.fv (.int .i64 ((65535 - n : Nat) : Int))) [] := by
  have := Eff.bin (T := T) (H := H) (d := d) (op := .xor) (t := t) (u := u) h1 h2 rfl
  rwa [bits_xor_word n h3, show 65535 - (n : Int) = ((65535 - n : Nat) : Int) by omega] at this
end
theorem bytes_app (bs cs : List UInt8) : ((bs ++ cs).flatMap encB).map AV.fv = (bs.flatMap encB).map .fv ++ (cs.flatMap encB).map .fv := by simp
theorem two_T (bs : List UInt8) (k n : Nat) (hk : k = bs.length) (hn : n ≤ 65535) (hl : k ≤ 100000) : FunO Tryz.prog 85 [.osl 1000, .fv (.int .i64 (n : Int))] [(1000, .row 5 1 k ((bs.flatMap encB).map .fv))] (.osl 7) [(7, .row 5 1 (k + 2) (((bs ++ be n).flatMap encB).map .fv))] := by
  refine FunO.body tbl_ok Tryz.func85 rfl (by kernel_rfl) rfl rfl rfl ?_
  repeat' (first | (apply X.loE; (· exact aR); (· first | (exact .eff (.shrB rfl rfl)) | (exact .eff (.convB rfl rfl rfl)))) | refine X.loc ?_ | refine nx ?_ | (refine WP.condBit rfl ?_ ?_) | (refine WP.cond rfl ?_ ?_ <;> intro hcond) | (apply X.gsE; (· exact aR); (· exact aV); (· exact aW); (· intro hc; first | (exact .eff (.shrB rfl rfl)) | (exact .eff (.convB rfl rfl rfl))); (· exact aR)) | refine rb ?_ | refine nd ?_ | refine dk ?_ | fail)
  refine .ofO (s' := ⟨[(4, .osl 7)], [(7, .row 5 1 (k + 2) (((bs ++ be n).flatMap encB).map .fv))]⟩) (.inl rfl) ?_ rfl rfl rfl
  refine St.to [(7, .id 12)] [] rfl rfl ?_ ?_ <;> (repeat' (first | exact tA | refine t1 ?_ | exact tB | refine t2 ?_ ?_ | refine t3 ?_ | refine t4 ?_ ?_ | refine .ofEq ?_ | refine OB.To.cut rfl rfl ?_ ?_ ?_ ?_ | refine OB.To.box rfl rfl ?_ | refine ⟨⟨_, rfl, ?_⟩, ?_⟩ | refine ⟨?_, ?_⟩ | fail))
  all_goals (rw [bytes_app]; rfl)
theorem Eff.idxB8 {T : Tbl} {ρ : Operand → AV} {H : Own} {d t : Nat} {x y : Operand} {l : List UInt8} {k e b i : Nat} {kk : IntKind} {u : UInt8} (hk : k = l.length) (h1 : ρ x = .fv (.sl (l.flatMap encB) k)) (h2 : ρ y = .fv (.int kk i)) (h3 : lk T.sli t = some (e, 1, b)) (hu : l[i]? = some u) : Eff T ρ H d (.indexAddr t x y) (.fptr (encB u)) [] := by
  subst hk
  exact Eff.idxS (enc := encB) h1 h2 h3 encB_len hu
set_option maxHeartbeats 2000000 in
theorem sum_T (bs : List UInt8) (k : Nat) (hk : k = bs.length) (hl : k ≤ 1000) : Fun Tryz.prog 86 [.fv (.sl (bs.flatMap encB) k)] (.fv (.int .i64 (sumOf bs : Nat))) := by
  refine Fun.body tbl_ok Tryz.func86 rfl (by kernel_rfl) rfl rfl rfl ?_
  repeat' (first | refine X.loc ?_ | refine nx ?_ | (refine WP.condBit rfl ?_ ?_) | (refine WP.cond rfl ?_ ?_ <;> intro hcond) | refine rb ?_ | refine nd ?_ | refine dk ?_ | fail)
  refine WP.loop (ι := Nat) (fun j => ⟨[(6, .fv (.sl (bs.flatMap encB) k)), (7, .fv (.int .i64 k)), (8, .fv (.int .i64 j)), (3, .fv (.int .i64 (raw true (bs.take j) : Nat)))], []⟩) (fun j => j ≤ k) (fun j => k - j) 0 (by omega) ?_ ?_
  · skip
    refine St.le_of ?_ ?_ <;> (repeat' (first | exact trivial | refine ⟨⟨_, rfl, .refl _⟩, ?_⟩ | refine ⟨⟨_, rfl, .any _⟩, ?_⟩ | refine ⟨⟨_, rfl, .of_eq ?_⟩, ?_⟩ | refine ⟨⟨_, rfl, fun _ _ _ _ h => h⟩, ?_⟩ | fail))
  rintro j hj
  try dsimp only
  have hr := raw_le true (bs.take j)
  have hrl : (bs.take j).length ≤ 1000 := by simp; omega
  by_cases hlt : j < k
  case pos =>
    obtain ⟨u, hu⟩ : ∃ u, bs[j]? = some u := ⟨_, List.getElem?_eq_getElem (by omega)⟩
    have hat := raw_take hu
    have hu8 := u.toNat_lt
    repeat' (first | (apply X.loE; (· exact aR); (· first | (exact .eff (.idxB8 hk rfl rfl rfl hu)) | (exact .eff (.conv8 rfl rfl rfl)) | (exact .eff (.shlB rfl rfl (by omega))))) | refine X.loc ?_ | refine nx ?_ | refine X.cdT ?_ | refine X.cdF ?_ | (refine WP.condBit rfl ?_ ?_) | (refine WP.cond rfl ?_ ?_ <;> intro hcond) | (apply X.gsE; (· exact aR); (· exact aV); (· exact aW); (· intro hc; first | (exact .eff (.idxB8 hk rfl rfl rfl hu)) | (exact .eff (.conv8 rfl rfl rfl)) | (exact .eff (.shlB rfl rfl (by omega)))); (· exact aR)) | refine rb ?_ | refine nd ?_ | refine dk ?_ | fail)
    · refine ⟨j + 1, by omega, by omega, ?_⟩
      refine St.le_of ?_ ?_ <;> (repeat' (first | exact trivial | refine ⟨⟨_, rfl, .refl _⟩, ?_⟩ | refine ⟨⟨_, rfl, .any _⟩, ?_⟩ | refine ⟨⟨_, rfl, .of_eq ?_⟩, ?_⟩ | refine ⟨⟨_, rfl, fun _ _ _ _ h => h⟩, ?_⟩ | fail))
      all_goals
        have h2 : j % 2 = 0 := by simp at hcond; omega
        rw [if_pos h2] at hat
        rw [hat]
        congr 2
        omega
    · refine ⟨j + 1, by omega, by omega, ?_⟩
      refine St.le_of ?_ ?_ <;> (repeat' (first | exact trivial | refine ⟨⟨_, rfl, .refl _⟩, ?_⟩ | refine ⟨⟨_, rfl, .any _⟩, ?_⟩ | refine ⟨⟨_, rfl, .of_eq ?_⟩, ?_⟩ | refine ⟨⟨_, rfl, fun _ _ _ _ h => h⟩, ?_⟩ | fail))
      all_goals
        have h2 : ¬ j % 2 = 0 := by simp at hcond; omega
        rw [if_neg h2] at hat
        rw [hat]
        congr 2
  case neg =>
    have hjk : j = k := by omega
    subst hjk
    rw [List.take_of_length_le (by omega)] at hr ⊢
    repeat' (first | refine X.loc ?_ | refine nx ?_ | refine X.cdT ?_ | refine X.cdF ?_ | (refine WP.condBit rfl ?_ ?_) | (refine WP.cond rfl ?_ ?_ <;> intro hcond) | refine rb ?_ | refine nd ?_ | refine dk ?_ | fail)
    refine WP.loop (ι := Nat) (fun q => ⟨[(3, .fv (.int .i64 q))], []⟩) (fun q => q ≤ 65280000 ∧ csum q = csum (raw true bs)) (fun q => q) (raw true bs) ⟨by omega, rfl⟩ ?_ ?_
    · skip
      refine St.le_of ?_ ?_ <;> (repeat' (first | exact trivial | refine ⟨⟨_, rfl, .refl _⟩, ?_⟩ | refine ⟨⟨_, rfl, .any _⟩, ?_⟩ | refine ⟨⟨_, rfl, .of_eq ?_⟩, ?_⟩ | refine ⟨⟨_, rfl, fun _ _ _ _ h => h⟩, ?_⟩ | fail))
    rintro q ⟨hq, hc⟩
    try dsimp only
    by_cases hg : 65535 < q
    case pos =>
      repeat' (first | (apply X.loE; (· exact aR); (· first | (exact .eff (.shrW rfl rfl)) | (exact .eff (.andW rfl rfl (by omega))))) | refine X.loc ?_ | refine nx ?_ | refine X.cdT ?_ | refine X.cdF ?_ | (refine WP.condBit rfl ?_ ?_) | (refine WP.cond rfl ?_ ?_ <;> intro hcond) | (apply X.gsE; (· exact aR); (· exact aV); (· exact aW); (· intro hc; first | (exact .eff (.shrW rfl rfl)) | (exact .eff (.andW rfl rfl (by omega)))); (· exact aR)) | refine rb ?_ | refine nd ?_ | refine dk ?_ | fail)
      refine ⟨q / 65536 + q % 65536, ⟨by omega, by rw [csum_fold q hg]; exact hc⟩, by omega, ?_⟩
      refine St.le_of ?_ ?_ <;> (repeat' (first | exact trivial | refine ⟨⟨_, rfl, .refl _⟩, ?_⟩ | refine ⟨⟨_, rfl, .any _⟩, ?_⟩ | refine ⟨⟨_, rfl, .of_eq ?_⟩, ?_⟩ | refine ⟨⟨_, rfl, fun _ _ _ _ h => h⟩, ?_⟩ | fail))
      all_goals (congr 2)
    case neg =>
      repeat' (first | (apply X.loE; (· exact aR); (· first | (exact .eff (.xorW rfl rfl (by omega))))) | refine X.loc ?_ | refine nx ?_ | refine X.cdT ?_ | refine X.cdF ?_ | (refine WP.condBit rfl ?_ ?_) | (refine WP.cond rfl ?_ ?_ <;> intro hcond) | (apply X.gsE; (· exact aR); (· exact aV); (· exact aW); (· intro hc; first | (exact .eff (.xorW rfl rfl (by omega)))); (· exact aR)) | refine rb ?_ | refine nd ?_ | refine dk ?_ | fail)
      refine .f1 (.inl rfl) rfl ?_
      rw [sumOf, ← hc, csum_small (by omega)]
end Go.Proofs.YtmidechdlbcepaaGreat

namespace Go.Proofs.YtmidechdlbcepaaGreat
open Go.RowKit
set_option maxRecDepth 100000

def headF (f : Fr) : List UInt8 := be f.dst.toNat ++ be f.src.toNat ++ [UInt8.ofNat f.kind.toNat, UInt8.ofNat f.ttl.toNat] ++ be f.ipSrc.toNat ++ be f.ipDst.toNat ++ be f.port.toNat ++ [0, UInt8.ofNat f.body.size] ++ f.body.data.toList
def bytesF (f : Fr) : List UInt8 := headF f ++ be (sumOf (headF f))
def encF (f : Fr) : List UInt8 := if frameFault f ≠ 0 then [] else bytesF f
theorem headF_len (f : Fr) : (headF f).length = 14 + f.body.size := by
  simp only [headF, be, List.length_append, List.length_cons, List.length_nil, Array.length_toList]
  show _ = 14 + f.body.data.size
  omega
theorem bytesF_len (f : Fr) : (bytesF f).length = 16 + f.body.size := by
  rw [bytesF, List.length_append, headF_len]
  simp only [be, List.length_cons, List.length_nil]
  omega
theorem fr_nat {f : Fr} (h : FrMay f) : ∃ n0 n1 n2 n3 n4 n5 n6 : Nat, f = ⟨n0, n1, n2, n3, n4, n5, n6, f.body⟩ ∧ n0 ≤ 65535 ∧ n1 ≤ 65535 ∧ n2 ≤ 255 ∧ n3 ≤ 65535 ∧ n4 ≤ 65535 ∧ n5 ≤ 255 ∧ n6 ≤ 65535 := by
  obtain ⟨d, s, k, is, id, t, p, b⟩ := f
  obtain ⟨h0, h1, h2, h3, h4, h5, h6, h7⟩ := h
  refine ⟨d.toNat, s.toNat, k.toNat, is.toNat, id.toNat, t.toNat, p.toNat, ?_, ?_, ?_, ?_, ?_, ?_, ?_, ?_⟩
  · dsimp only at *
    rw [Int.toNat_of_nonneg h0.1, Int.toNat_of_nonneg h1.1, Int.toNat_of_nonneg (show 0 ≤ k by omega), Int.toNat_of_nonneg h3.1, Int.toNat_of_nonneg h4.1, Int.toNat_of_nonneg h5.1, Int.toNat_of_nonneg h6.1]
  all_goals (dsimp only at *; omega)
set_option maxHeartbeats 4000000 in
theorem encode_T (f : Fr) : FunO Tryz.prog 55 [.agg ((encFr f).map .fv)] [] (.tup [.osl 7, .fv (.int .i64 (frameFault f))]) [(7, .row 5 1 (encF f).length (((encF f).flatMap encB).map .fv))] := by
  have hck := wireCheck_T f
  by_cases hff : frameFault f = 0
  case neg =>
    have he : encF f = [] := if_pos hff
    rw [he]
    refine FunO.body tbl_ok Tryz.func55 rfl (by kernel_rfl) rfl rfl rfl ?_
    repeat' (first | (apply X.loE; (· exact aR); (· first | exact .callL rfl rfl rfl (hck) rfl | exact bl (hck))) | refine X.loc ?_ | refine nx ?_ | (refine WP.condBit rfl ?_ ?_) | (refine WP.cond rfl ?_ ?_ <;> intro hcond) | (apply X.gsE; (· exact aR); (· exact aV); (· exact aW); (· intro hc; first | exact .callG rfl rfl rfl (hck) rfl | exact bg (hck)); (· exact aR)) | refine rb ?_ | refine nd ?_ | refine dk ?_ | fail)
    · refine .ofO (s' := ⟨[(2, .osl 7), (3, .fv (.int .i64 (frameFault f)))], [(7, .row 5 1 0 [])]⟩) (.inl rfl) ?_ rfl rfl rfl
      refine St.to [(7, .nil)] [] rfl rfl ?_ ?_ <;> (repeat' (first | exact tA | refine t1 ?_ | exact tB | refine t2 ?_ ?_ | refine t3 ?_ | refine t4 ?_ ?_ | refine .ofEq ?_ | refine OB.To.cut rfl rfl ?_ ?_ ?_ ?_ | refine OB.To.box rfl rfl ?_ | refine ⟨⟨_, rfl, ?_⟩, ?_⟩ | refine ⟨?_, ?_⟩ | fail))
    all_goals
      exfalso
      exact hff (by simpa using hcond)
  case pos =>
    have he : encF f = bytesF f := if_neg (by omega)
    have hlen := bytesF_len f
    rw [he]
    have hm := frMay hff
    have hb := hm.body
    rw [hff] at hck ⊢
    obtain ⟨n0, n1, n2, n3, n4, n5, n6, hfe, b0, b1, b2, b3, b4, b5, b6⟩ := fr_nat hm
    generalize f.body = s at hfe hb hlen
    subst hfe
    have hhl := headF_len ⟨n0, n1, n2, n3, n4, n5, n6, s⟩
    have hb2 : (Fr.body ⟨n0, n1, n2, n3, n4, n5, n6, s⟩).size ≤ 40 := hb
    have hs := sumOf_le (headF ⟨n0, n1, n2, n3, n4, n5, n6, s⟩)
    have hsum := sum_T (headF ⟨n0, n1, n2, n3, n4, n5, n6, s⟩) (14 + s.size) hhl.symm (by omega)
    have hbf : bytesF ⟨n0, n1, n2, n3, n4, n5, n6, s⟩ = headF ⟨n0, n1, n2, n3, n4, n5, n6, s⟩ ++ be (sumOf (headF ⟨n0, n1, n2, n3, n4, n5, n6, s⟩)) := rfl
    generalize hq : sumOf (headF ⟨n0, n1, n2, n3, n4, n5, n6, s⟩) = q at hs hsum hbf
    rw [hbf] at hlen ⊢
    refine FunO.body tbl_ok Tryz.func55 rfl (by kernel_rfl) rfl rfl rfl ?_
    repeat' (first | (apply X.loE; (· exact aR); (· first | (exact .eff (.convB rfl rfl rfl)) | exact .callL rfl rfl rfl (by first | exact hck | exact hsum) rfl | exact bl (hck) | exact bl (hsum))) | refine X.loc ?_ | refine nx ?_ | refine X.cdT ?_ | refine X.cdF ?_ | (refine WP.condBit rfl ?_ ?_) | (refine WP.cond rfl ?_ ?_ <;> intro hcond) | (apply X.gsE; (· exact aR); (· exact aV); (· exact aW); (· intro hc; first | (exact .eff (.convB rfl rfl rfl)) | exact .callG rfl rfl rfl (by first | exact hck | exact hsum) rfl | exact bg (hck) | exact bg (hsum)); (· exact aR)) | refine rb ?_ | refine X.c0 (two_T [] 0 n0 rfl b0 (by omega)) ?_ | refine X.c0 (two_T (be n0) 2 n1 rfl b1 (by omega)) ?_ | refine X.c0 (two_T (be n0 ++ be n1 ++ [UInt8.ofNat n2, UInt8.ofNat n5]) 6 n3 rfl b3 (by omega)) ?_ | refine X.c0 (two_T (be n0 ++ be n1 ++ [UInt8.ofNat n2, UInt8.ofNat n5] ++ be n3) 8 n4 rfl b4 (by omega)) ?_ | refine X.c0 (two_T (be n0 ++ be n1 ++ [UInt8.ofNat n2, UInt8.ofNat n5] ++ be n3 ++ be n4) 10 n6 rfl b6 (by omega)) ?_ | refine X.c0 (two_T (headF ⟨n0, n1, n2, n3, n4, n5, n6, s⟩) (14 + s.size) q hhl.symm hs (by omega)) ?_ | refine nd ?_ | refine dk ?_ | fail)
    refine .ofO (s' := ⟨[(2, .osl 7), (3, .fv (.int .i64 0))], [(7, .row 5 1 (headF ⟨n0, n1, n2, n3, n4, n5, n6, s⟩ ++ be q).length (((headF ⟨n0, n1, n2, n3, n4, n5, n6, s⟩ ++ be q).flatMap encB).map .fv))]⟩) (.inl rfl) ?_ rfl rfl rfl
    refine St.to [(7, .id 49)] [] rfl rfl ?_ ?_ <;> (repeat' (first | exact tA | refine t1 ?_ | exact tB | refine t2 ?_ ?_ | refine t3 ?_ | refine t4 ?_ ?_ | refine .ofEq ?_ | refine OB.To.cut rfl rfl ?_ ?_ ?_ ?_ | refine OB.To.box rfl rfl ?_ | refine ⟨⟨_, rfl, ?_⟩, ?_⟩ | refine ⟨?_, ?_⟩ | fail))
    all_goals (rw [hlen]; omega)
theorem encodeF_T (f : Fr) : Fun Tryz.prog 55 [.agg ((encFr f).map .fv)] (.tup [.fv (.sl ((encF f).flatMap encB) (encF f).length), .fv (.int .i64 (frameFault f))]) :=
  FunO.froz [7] (encode_T f) (.tup (.cons (.frz rfl rfl rfl) (.cons (.le (.refl _) rfl) .nil)))
end Go.Proofs.YtmidechdlbcepaaGreat

namespace Go.Proofs.YtmidechdlbcepaaGreat
open Go.RowKit
set_option maxRecDepth 100000

def wrapFault (n t : Int) (f : Fr) : Int := if ¬ (word n = true ∧ word t = true) then 2 else frameFault f
def wrapR (n t : Int) (f : Fr) : List UInt8 := if wrapFault n t f ≠ 0 then [] else [100, 121] ++ be n.toNat ++ be t.toNat ++ bytesF f
theorem nor_words {n t : Int} (h : (!word n || !word t) = true) : ¬ (word n = true ∧ word t = true) := by
  intro h2
  simp [h2.1, h2.2] at h
theorem and_words {n t : Int} (h : (!word n || !word t) = false) : word n = true ∧ word t = true := by
  simpa using h
set_option maxHeartbeats 4000000 in
theorem wrap0_T (n t : Int) (f : Fr) : FunO Tryz.prog 141 [.fv (.int .i64 n), .fv (.int .i64 t), .agg ((encFr f).map .fv)] [] (.tup [.osl 7, .fv (.int .i64 (wrapFault n t f))]) [(7, .row 5 1 (wrapR n t f).length (((wrapR n t f).flatMap encB).map .fv))] := by
  have h1 := wword_T n
  have h2 := wword_T t
  have h3 := encodeF_T f
  have hbl := bytesF_len f
  refine FunO.body tbl_ok Tryz.func141 rfl (by kernel_rfl) rfl rfl rfl ?_
  by_cases hw : wrapFault n t f = 0
  case neg =>
    have he : wrapR n t f = [] := if_pos hw
    rw [he]
    repeat' (first | (apply X.loE; (· exact aR); (· first | exact .callL rfl rfl rfl (by first | exact h1 | exact h2 | exact h3) rfl | exact bl (h1) | exact bl (h2) | exact bl (h3))) | refine X.loc ?_ | refine nx ?_ | (refine WP.condBit rfl ?_ ?_) | (refine WP.cond rfl ?_ ?_ <;> intro hcond) | (apply X.gsE; (· exact aR); (· exact aV); (· exact aW); (· intro hc; first | exact .callG rfl rfl rfl (by first | exact h1 | exact h2 | exact h3) rfl | exact bg (h1) | exact bg (h2) | exact bg (h3)); (· exact aR)) | refine rb ?_ | refine nd ?_ | refine dk ?_ | fail)
    · refine .ofO (s' := ⟨[(6, .osl 7), (7, .fv (.int .i64 (wrapFault n t f)))], [(7, .row 5 1 0 [])]⟩) (.inl rfl) ?_ rfl rfl rfl
      refine St.to [(7, .nil)] [] rfl rfl ?_ ?_ <;> (repeat' (first | exact tA | refine t1 ?_ | exact tB | refine t2 ?_ ?_ | refine t3 ?_ | refine t4 ?_ ?_ | refine .ofEq ?_ | refine OB.To.cut rfl rfl ?_ ?_ ?_ ?_ | refine OB.To.box rfl rfl ?_ | refine ⟨⟨_, rfl, ?_⟩, ?_⟩ | refine ⟨?_, ?_⟩ | fail))
      all_goals (rw [wrapFault, if_pos (nor_words hcond)])
    · refine .ofO (s' := ⟨[(6, .osl 7), (7, .fv (.int .i64 (wrapFault n t f)))], [(7, .row 5 1 0 [])]⟩) (.inl rfl) ?_ rfl rfl rfl
      refine St.to [(7, .nil)] [] rfl rfl ?_ ?_ <;> (repeat' (first | exact tA | refine t1 ?_ | exact tB | refine t2 ?_ ?_ | refine t3 ?_ | refine t4 ?_ ?_ | refine .ofEq ?_ | refine OB.To.cut rfl rfl ?_ ?_ ?_ ?_ | refine OB.To.box rfl rfl ?_ | refine ⟨⟨_, rfl, ?_⟩, ?_⟩ | refine ⟨?_, ?_⟩ | fail))
      rename_i hc1
      all_goals (rw [wrapFault, if_neg (not_not_intro (and_words hc1))])
    all_goals
      rename_i hc1
      exfalso
      rw [wrapFault, if_neg (not_not_intro (and_words hc1))] at hw
      exact hw (by simpa using hcond)
  case pos =>
    have hnt : word n = true ∧ word t = true := by
      by_cases h : word n = true ∧ word t = true
      · exact h
      · rw [wrapFault, if_pos h] at hw
        omega
    have hf : frameFault f = 0 := by rwa [wrapFault, if_neg (not_not_intro hnt)] at hw
    have he : encF f = bytesF f := if_neg (by omega)
    have he2 : wrapR n t f = [100, 121] ++ be n.toNat ++ be t.toNat ++ bytesF f := if_neg (by omega)
    have hm := (frMay hf).body
    rw [hnt.1] at h1
    rw [hnt.2] at h2
    rw [hf, he] at h3
    rw [hw, he2]
    obtain ⟨n1, rfl⟩ := Int.eq_ofNat_of_zero_le (word_iff.1 hnt.1).1
    obtain ⟨t1, rfl⟩ := Int.eq_ofNat_of_zero_le (word_iff.1 hnt.2).1
    have b1 := (word_iff.1 hnt.1).2
    have b2 := (word_iff.1 hnt.2).2
    generalize bytesF f = q at h3 hbl
    generalize hk : q.length = k at h3 hbl
    repeat' (first | (apply X.loE; (· exact aR); (· first | exact .callL rfl rfl rfl (by first | exact h1 | exact h2 | exact h3) rfl | exact bl (h1) | exact bl (h2) | exact bl (h3))) | refine X.loc ?_ | refine nx ?_ | refine X.cdT ?_ | refine X.cdF ?_ | (refine WP.condBit rfl ?_ ?_) | (refine WP.cond rfl ?_ ?_ <;> intro hcond) | (apply X.gsE; (· exact aR); (· exact aV); (· exact aW); (· intro hc; first | exact .callG rfl rfl rfl (by first | exact h1 | exact h2 | exact h3) rfl | exact bg (h1) | exact bg (h2) | exact bg (h3)); (· exact aR)) | refine rb ?_ | refine X.c0 (two_T [100, 121] 2 n1 rfl (by omega) (by omega)) ?_ | refine X.c0 (two_T ([100, 121] ++ be n1) 4 t1 rfl (by omega) (by omega)) ?_ | refine nd ?_ | refine dk ?_ | fail)
    refine .ofO (s' := ⟨[(6, .osl 7), (7, .fv (.int .i64 0))], [(7, .row 5 1 ([100, 121] ++ be n1 ++ be t1 ++ q).length ((([100, 121] ++ be n1 ++ be t1 ++ q).flatMap encB).map .fv))]⟩) (.inl rfl) ?_ rfl rfl rfl
    refine St.to [(7, .id 32)] [] rfl rfl ?_ ?_ <;> (repeat' (first | exact tA | refine t1 ?_ | exact tB | refine t2 ?_ ?_ | refine t3 ?_ | refine t4 ?_ ?_ | refine .ofEq ?_ | refine OB.To.cut rfl rfl ?_ ?_ ?_ ?_ | refine OB.To.box rfl rfl ?_ | refine ⟨⟨_, rfl, ?_⟩, ?_⟩ | refine ⟨?_, ?_⟩ | fail))
    · simp only [List.length_append, be, List.length_cons, List.length_nil, hk]
    · show List.map AV.fv [] ++ _ = _
      rfl
theorem wrap_T (n t : Int) (f : Fr) : Fun Tryz.prog 141 [.fv (.int .i64 n), .fv (.int .i64 t), .agg ((encFr f).map .fv)] (.tup [.fv (.sl ((wrapR n t f).flatMap encB) (wrapR n t f).length), .fv (.int .i64 (wrapFault n t f))]) :=
  FunO.froz [7] (wrap0_T n t f) (.tup (.cons (.frz rfl rfl rfl) (.cons (.le (.refl _) rfl) .nil)))
end Go.Proofs.YtmidechdlbcepaaGreat

namespace Go.Proofs.YtmidechdlbcepaaGreat
open Go.RowKit
set_option maxRecDepth 100000

theorem bits_or_byte (n m : Nat) (h : n ≤ 65535) (hm : m < 256) : bits .or .i64 ((n * 256 : Nat) : Int) (m : Int) = ((256 * n + m : Nat) : Int) := by
  have e : n * 256 ||| m = 256 * n + m := by
    have := Nat.shiftLeft_add_eq_or_of_lt (a := n) (b := m) (i := 8) (by omega)
    rw [Nat.shiftLeft_eq, show 2 ^ 8 = 256 from rfl] at this
    omega
  show IntKind.i64.wrap ((BitVec.ofInt 64 ((n * 256 : Nat) : Int) ||| BitVec.ofInt 64 (m : Int)).toNat : Int) = _
  rw [BitVec.toNat_or, ofInt_i64 _ (by omega), ofInt_i64 _ (by omega), e, IntKind.wrap_i64]
  omega
def byteAt (bs : List UInt8) (i : Nat) : UInt8 := (bs[i]?).getD 0
def wat (bs : List UInt8) (i : Nat) : Nat := 256 * (byteAt bs i).toNat + (byteAt bs (i + 1)).toNat
theorem byteAt_get {bs : List UInt8} {i k : Nat} (hk : k = bs.length) (h : i < k) : bs[i]? = some (byteAt bs i) := by
  subst hk
  rw [byteAt, List.getElem?_eq_getElem h]
  rfl
theorem wat_le (bs : List UInt8) (i : Nat) : wat bs i ≤ 65535 := by
  have := (byteAt bs i).toNat_lt
  have := (byteAt bs (i + 1)).toNat_lt
  unfold wat
  omega
theorem flatMap_drop {α : Type} {enc : α → List FV} {s : Nat} (hs : ∀ x, (enc x).length = s) : ∀ (l : List α) (j : Nat), (l.flatMap enc).drop (j * s) = (l.drop j).flatMap enc
  | l, 0 => by simp
  | [], j + 1 => by simp
  | x :: l, j + 1 => by
    rw [List.flatMap_cons, List.drop_succ_cons, ← flatMap_drop hs l j, Nat.add_mul, Nat.one_mul, Nat.add_comm, ← List.drop_drop, List.drop_left' (hs x)]
theorem flatMap_take {α : Type} {enc : α → List FV} {s : Nat} (hs : ∀ x, (enc x).length = s) : ∀ (l : List α) (j : Nat), (l.flatMap enc).take (j * s) = (l.take j).flatMap enc
  | l, 0 => by simp
  | [], j + 1 => by simp
  | x :: l, j + 1 => by
    rw [List.flatMap_cons, List.take_succ_cons, List.flatMap_cons, ← flatMap_take hs l j, Nat.add_mul, Nat.one_mul, Nat.add_comm, List.take_append, List.take_of_length_le (by rw [hs]; omega), hs, Nat.add_sub_cancel_left]
section
variable {T : Tbl} {ρ : Operand → AV} {H : Own} {d : Nat}
theorem Eff.orB {t u : Nat} {x y : Operand} {n m : Nat} (h1 : ρ x = .fv (.int .i64 ((n * 256 : Nat) : Int))) (h2 : ρ y = .fv (.int .i64 (m : Int))) (h3 : n ≤ 65535) (h4 : m < 256) : Eff T ρ H d (.binOp .or t x y u) (.fv (.int .i64 ((256 * n + m : Nat) : Int))) [] := by
  have := Eff.bin (T := T) (H := H) (d := d) (op := .or) (t := t) (u := u) h1 h2 rfl
  rwa [bits_or_byte n m h3 h4] at this
theorem Eff.idxBI {t : Nat} {x y : Operand} {l : List UInt8} {k e b : Nat} (i : Nat) {kk : IntKind} {v : Int} (hk : k = l.length) (h1 : ρ x = .fv (.sl (l.flatMap encB) k)) (h2 : ρ y = .fv (.int kk v)) (h3 : lk T.sli t = some (e, 1, b)) (hv : v = (i : Int)) (hi : i < k) : Eff T ρ H d (.indexAddr t x y) (.fptr (encB (byteAt l i))) [] := by
  subst hv
  exact Eff.idxB8 hk h1 h2 h3 (byteAt_get hk hi)
theorem Eff.sliHB {t : Nat} {x hi : Operand} {l : List UInt8} {k e b : Nat} (h : Nat) {k' : IntKind} {v : Int} (hk : k = l.length) (h1 : ρ x = .fv (.sl (l.flatMap encB) k)) (h2 : ρ hi = .fv (.int k' v)) (h3 : lk T.sli t = some (e, 1, b)) (hv : v = (h : Int)) (hh : h ≤ k) : Eff T ρ H d (.slice t x none (some hi) none) (.fv (.sl ((l.take h).flatMap encB) h)) [] := by
  subst hv
  have hl : (l.flatMap encB).length = k * 1 := by rw [flatMap_len encB_len, hk]
  have := Eff.sliH (T := T) (H := H) (d := d) h1 h2 h3 hh hl
  rwa [flatMap_take encB_len] at this
theorem Eff.sliLB {t : Nat} {x lo : Operand} {bs : List UInt8} {k e b : Nat} (l : Nat) {k' : IntKind} {v : Int} (hk : k = bs.length) (h1 : ρ x = .fv (.sl (bs.flatMap encB) k)) (h2 : ρ lo = .fv (.int k' v)) (h3 : lk T.sli t = some (e, 1, b)) (hv : v = (l : Int)) (hh : l ≤ k) : Eff T ρ H d (.slice t x (some lo) none none) (.fv (.sl ((bs.drop l).flatMap encB) (k - l))) [] := by
  subst hv
  have hl : (bs.flatMap encB).length = k * 1 := by rw [flatMap_len encB_len, hk]
  have := Eff.sliL (T := T) (H := H) (d := d) h1 h2 h3 hh hl
  rwa [flatMap_drop encB_len] at this
theorem Eff.sliLHB {t : Nat} {x lo hi : Operand} {bs : List UInt8} {k e b : Nat} (l m : Nat) {k' k2 : IntKind} {v v2 : Int} (hk : k = bs.length) (h1 : ρ x = .fv (.sl (bs.flatMap encB) k)) (h2 : ρ lo = .fv (.int k' v)) (h2' : ρ hi = .fv (.int k2 v2)) (h3 : lk T.sli t = some (e, 1, b)) (hv : v = (l : Int)) (hv2 : v2 = ((l + m : Nat) : Int)) (hh2 : l + m ≤ k) :
    Eff T ρ H d (.slice t x (some lo) (some hi) none) (.fv (.sl (((bs.drop l).take m).flatMap encB) m)) [] := by
  subst hv
  subst hv2
  have hl : (bs.flatMap encB).length = k * 1 := by rw [flatMap_len encB_len, hk]
  have := Eff.sliLH (T := T) (H := H) (d := d) h1 h2 h2' h3 (Nat.le_add_right l m) hh2 hl
  rwa [Nat.add_sub_cancel_left, flatMap_drop encB_len, flatMap_take encB_len] at this
theorem Eff.b2sB {s t : Nat} {x : Operand} {bs : List UInt8} {k e q b : Nat} (h1 : ρ x = .fv (.sl (bs.flatMap encB) k)) (h2 : lk T.sli s = some (e, q, b)) (h3 : lk T.kind e = some .u8) (h4 : lk T.str t = some ()) (hk : k = bs.length) : Eff T ρ H d (.convert s t x) (.fv (.str ⟨bs.toArray⟩)) [] := by
  subst hk
  exact .b2s h1 h2 h3 h4
end
theorem at_T (bs : List UInt8) (k i : Nat) (v : Int) (hk : k = bs.length) (hv : v = (i : Int)) (hi : i + 1 < k) (hl : k ≤ 140737488355328) : Fun Tryz.prog 175 [.fv (.int .i64 v), .fptr [.sl (bs.flatMap encB) k]] (.fv (.int .i64 (wat bs i : Nat))) := by
  have u1 := (byteAt bs i).toNat_lt
  have u2 := (byteAt bs (i + 1)).toNat_lt
  refine Fun.body tbl_ok Tryz.func175 rfl (by kernel_rfl) rfl rfl rfl ?_
  repeat' (first | (apply X.loE; (· exact aR); (· first | (exact .eff (.idxBI i hk rfl rfl rfl hv (by omega))) | (exact .eff (.idxBI (i + 1) hk rfl rfl rfl (by omega) (by omega))) | (exact .eff (.conv8 rfl rfl rfl)) | (exact .eff (.shlB rfl rfl (by omega))) | (exact .eff (.orB rfl rfl (by omega) (by omega))))) | refine X.loc ?_ | refine nx ?_ | refine X.cdT ?_ | refine X.cdF ?_ | (refine WP.condBit rfl ?_ ?_) | (refine WP.cond rfl ?_ ?_ <;> intro hcond) | (apply X.gsE; (· exact aR); (· exact aV); (· exact aW); (· intro hc; first | (exact .eff (.idxBI i hk rfl rfl rfl hv (by omega))) | (exact .eff (.idxBI (i + 1) hk rfl rfl rfl (by omega) (by omega))) | (exact .eff (.conv8 rfl rfl rfl)) | (exact .eff (.shlB rfl rfl (by omega))) | (exact .eff (.orB rfl rfl (by omega) (by omega)))); (· exact aR)) | refine rb ?_ | refine nd ?_ | refine dk ?_ | fail)
  refine .f1 (.inl rfl) rfl ?_
  rfl
end Go.Proofs.YtmidechdlbcepaaGreat

namespace Go.Proofs.YtmidechdlbcepaaGreat
open Go.RowKit
set_option maxRecDepth 100000

def fr0 : Fr := ⟨0, 0, 0, 0, 0, 0, 0, ByteArray.empty⟩
def decFr (bs : List UInt8) : Fr := ⟨(wat bs 0 : Nat), (wat bs 2 : Nat), ((byteAt bs 4).toNat : Nat), (wat bs 6 : Nat), (wat bs 8 : Nat), ((byteAt bs 5).toNat : Nat), (wat bs 10 : Nat), ⟨((bs.drop 14).take (wat bs 12)).toArray⟩⟩
def decFault (bs : List UInt8) : Int := if bs.length < 16 then 5 else if 40 < wat bs 12 then 1 else if bs.length < 16 + wat bs 12 then 5 else if 16 + wat bs 12 < bs.length then 4
  else if wat bs (14 + wat bs 12) ≠ sumOf (bs.take (14 + wat bs 12)) then 10 else frameFault (decFr bs)
def decR (bs : List UInt8) : Fr := if decFault bs ≠ 0 then fr0 else decFr bs
theorem decR_bad {bs : List UInt8} {e : Int} (h : decFault bs = e) (he : e ≠ 0) : decR bs = fr0 := if_pos (by rw [h]; exact he)
set_option maxHeartbeats 4000000 in
theorem decode_T (bs : List UInt8) (k : Nat) (hk : k = bs.length) (hl : k ≤ 140737488355328) : Fun Tryz.prog 158 [.fv (.sl (bs.flatMap encB) k)] (.tup [.agg ((encFr (decR bs)).map .fv), .fv (.int .i64 (decFault bs))]) := by
  refine Fun.body tbl_ok Tryz.func158 rfl (by kernel_rfl) rfl rfl rfl ?_
  by_cases h1 : k < 16
  case pos =>
    have hf : decFault bs = 5 := if_pos (by omega)
    rw [decR_bad hf (by decide), hf]
    repeat' (first | refine X.loc ?_ | refine nx ?_ | refine X.cdT ?_ | refine X.cdF ?_ | (refine WP.condBit rfl ?_ ?_) | (refine WP.cond rfl ?_ ?_ <;> intro hcond) | refine rb ?_ | refine nd ?_ | refine dk ?_ | fail)
    exact .fun (.inl rfl) rfl rfl
  have h1' : ¬ bs.length < 16 := by omega
  have hf := (rfl : decFault bs = decFault bs)
  conv at hf => rhs; unfold decFault
  rw [if_neg h1'] at hf
  have c12 := at_T bs k 12 12 hk rfl (by omega) hl
  have hdec : decFr bs = ⟨(wat bs 0 : Nat), (wat bs 2 : Nat), ((byteAt bs 4).toNat : Nat), (wat bs 6 : Nat), (wat bs 8 : Nat), ((byteAt bs 5).toNat : Nat), (wat bs 10 : Nat), ⟨((bs.drop 14).take (wat bs 12)).toArray⟩⟩ := rfl
  have hdr : ¬ decFault bs ≠ 0 → decR bs = decFr bs := fun h => if_neg h
  have hn := wat_le bs 12
  generalize wat bs 12 = n at *
  by_cases h2 : 40 < n
  case pos =>
    rw [if_pos h2] at hf
    rw [decR_bad hf (by decide), hf]
    repeat' (first | (apply X.loE; (· exact aR); (· first | exact .callL rfl rfl rfl (c12) rfl | exact bl (c12))) | refine X.loc ?_ | refine nx ?_ | refine X.cdT ?_ | refine X.cdF ?_ | (refine WP.condBit rfl ?_ ?_) | (refine WP.cond rfl ?_ ?_ <;> intro hcond) | (apply X.gsE; (· exact aR); (· exact aV); (· exact aW); (· intro hc; first | exact .callG rfl rfl rfl (c12) rfl | exact bg (c12)); (· exact aR)) | refine rb ?_ | refine nd ?_ | refine dk ?_ | fail)
    exact .fun (.inl rfl) rfl rfl
  rw [if_neg h2] at hf
  by_cases h3 : bs.length < 16 + n
  case pos =>
    rw [if_pos h3] at hf
    rw [decR_bad hf (by decide), hf]
    repeat' (first | (apply X.loE; (· exact aR); (· first | exact .callL rfl rfl rfl (c12) rfl | exact bl (c12))) | refine X.loc ?_ | refine nx ?_ | refine X.cdT ?_ | refine X.cdF ?_ | (refine WP.condBit rfl ?_ ?_) | (refine WP.cond rfl ?_ ?_ <;> intro hcond) | (apply X.gsE; (· exact aR); (· exact aV); (· exact aW); (· intro hc; first | exact .callG rfl rfl rfl (c12) rfl | exact bg (c12)); (· exact aR)) | refine rb ?_ | refine nd ?_ | refine dk ?_ | fail)
    exact .fun (.inl rfl) rfl rfl
  rw [if_neg h3] at hf
  by_cases h4 : 16 + n < bs.length
  case pos =>
    rw [if_pos h4] at hf
    rw [decR_bad hf (by decide), hf]
    repeat' (first | (apply X.loE; (· exact aR); (· first | exact .callL rfl rfl rfl (c12) rfl | exact bl (c12))) | refine X.loc ?_ | refine nx ?_ | refine X.cdT ?_ | refine X.cdF ?_ | (refine WP.condBit rfl ?_ ?_) | (refine WP.cond rfl ?_ ?_ <;> intro hcond) | (apply X.gsE; (· exact aR); (· exact aV); (· exact aW); (· intro hc; first | exact .callG rfl rfl rfl (c12) rfl | exact bg (c12)); (· exact aR)) | refine rb ?_ | refine nd ?_ | refine dk ?_ | fail)
    exact .fun (.inl rfl) rfl rfl
  rw [if_neg h4] at hf
  have cn := at_T bs k (14 + n) (14 + (n : Int)) hk (by omega) (by omega) hl
  have cs := sum_T (bs.take (14 + n)) (14 + n) (by rw [List.length_take]; omega) (by omega)
  have c0 := at_T bs k 0 0 hk rfl (by omega) hl
  have c2 := at_T bs k 2 2 hk rfl (by omega) hl
  have c6 := at_T bs k 6 6 hk rfl (by omega) hl
  have c8 := at_T bs k 8 8 hk rfl (by omega) hl
  have c10 := at_T bs k 10 10 hk rfl (by omega) hl
  by_cases h5 : wat bs (14 + n) = sumOf (bs.take (14 + n))
  case neg =>
    rw [if_pos h5] at hf
    rw [decR_bad hf (by decide), hf]
    generalize sumOf (bs.take (14 + n)) = q at *
    generalize wat bs (14 + n) = q2 at *
    repeat' (first | (apply X.loE; (· exact aR); (· first | (exact .eff (.sliHB (14 + n) hk rfl rfl rfl (by omega) (by omega))) | exact .callL rfl rfl rfl (by first | exact c12 | exact cn | exact cs) rfl | exact bl (c12) | exact bl (cn) | exact bl (cs))) | refine X.loc ?_ | refine nx ?_ | refine X.cdT ?_ | refine X.cdF ?_ | (refine WP.condBit rfl ?_ ?_) | (refine WP.cond rfl ?_ ?_ <;> intro hcond) | (apply X.gsE; (· exact aR); (· exact aV); (· exact aW); (· intro hc; first | (exact .eff (.sliHB (14 + n) hk rfl rfl rfl (by omega) (by omega))) | exact .callG rfl rfl rfl (by first | exact c12 | exact cn | exact cs) rfl | exact bg (c12) | exact bg (cn) | exact bg (cs)); (· exact aR)) | refine rb ?_ | refine nd ?_ | refine dk ?_ | fail)
    exact .fun (.inl rfl) rfl rfl
  rw [if_neg (not_not_intro h5)] at hf
  have hck := wireCheck_T (decFr bs)
  generalize wat bs 0 = w0 at *
  generalize wat bs 2 = w2 at *
  generalize wat bs 6 = w6 at *
  generalize wat bs 8 = w8 at *
  generalize wat bs 10 = w10 at *
  generalize sumOf (bs.take (14 + n)) = q at *
  generalize wat bs (14 + n) = q2 at *
  subst h5
  rw [← hf, hdec] at hck
  repeat' (first | (apply X.loE; (· exact aR); (· first | (exact .eff (.sliHB (14 + n) hk rfl rfl rfl (by omega) (by omega))) | (exact .eff (.sliLHB 14 n hk rfl rfl rfl rfl rfl (by omega) (by omega))) | (exact .eff (.idxBI 4 hk rfl rfl rfl rfl (by omega))) | (exact .eff (.idxBI 5 hk rfl rfl rfl rfl (by omega))) | (exact .eff (.conv8 rfl rfl rfl)) | (exact .eff (.b2sB rfl rfl rfl rfl (by simp; omega))) | exact .callL rfl rfl rfl (by first | exact c12 | exact cn | exact cs | exact hck | exact c0 | exact c2 | exact c6 | exact c8 | exact c10) rfl | exact bl (c12) | exact bl (cn) | exact bl (cs) | exact bl (hck) | exact bl (c0) | exact bl (c2) | exact bl (c6) | exact bl (c8) | exact bl (c10))) | refine X.loc ?_ | refine nx ?_ | refine X.cdT ?_ | refine X.cdF ?_ | (refine WP.condBit rfl ?_ ?_) | (refine WP.cond rfl ?_ ?_ <;> intro hcond) | (apply X.gsE; (· exact aR); (· exact aV); (· exact aW); (· intro hc; first | (exact .eff (.sliHB (14 + n) hk rfl rfl rfl (by omega) (by omega))) | (exact .eff (.sliLHB 14 n hk rfl rfl rfl rfl rfl (by omega) (by omega))) | (exact .eff (.idxBI 4 hk rfl rfl rfl rfl (by omega))) | (exact .eff (.idxBI 5 hk rfl rfl rfl rfl (by omega))) | (exact .eff (.conv8 rfl rfl rfl)) | (exact .eff (.b2sB rfl rfl rfl rfl (by simp; omega))) | exact .callG rfl rfl rfl (by first | exact c12 | exact cn | exact cs | exact hck | exact c0 | exact c2 | exact c6 | exact c8 | exact c10) rfl | exact bg (c12) | exact bg (cn) | exact bg (cs) | exact bg (hck) | exact bg (c0) | exact bg (c2) | exact bg (c6) | exact bg (c8) | exact bg (c10)); (· exact aR)) | refine rb ?_ | refine nd ?_ | refine dk ?_ | fail)
  · rw [decR_bad rfl (bne_iff_ne.1 hcond)]
    exact .fun (.inl rfl) rfl rfl
  · have h0 : decFault bs = 0 := bne_eq_false_iff_eq.1 hcond
    rw [hdr (not_not_intro h0), h0, hdec]
    exact .fun (.inl rfl) rfl rfl
end Go.Proofs.YtmidechdlbcepaaGreat

namespace Go.Proofs.YtmidechdlbcepaaGreat
open Go.RowKit
set_option maxRecDepth 100000

def unwFault (bs : List UInt8) : Int := if bs.length < 6 then 5 else if ¬ (byteAt bs 0 = 100 ∧ byteAt bs 1 = 121) then 4 else decFault (bs.drop 6)
def unwN (bs : List UInt8) : Nat := if unwFault bs ≠ 0 then 0 else wat bs 2
def unwT (bs : List UInt8) : Nat := if unwFault bs ≠ 0 then 0 else wat bs 4
def unwR (bs : List UInt8) : Fr := if unwFault bs ≠ 0 then fr0 else decR (bs.drop 6)
theorem unw_bad {bs : List UInt8} {e : Int} (h : unwFault bs = e) (he : e ≠ 0) : unwN bs = 0 ∧ unwT bs = 0 ∧ unwR bs = fr0 := ⟨if_pos (by rw [h]; exact he), if_pos (by rw [h]; exact he), if_pos (by rw [h]; exact he)⟩
theorem u8_ne {a : UInt8} {n : Nat} (hn : n < 256) : ((a.toNat : Int) != (n : Int)) = !decide (a = UInt8.ofNat n) := by
  have h : ((a.toNat : Int) = (n : Int)) ↔ a = UInt8.ofNat n := by
    rw [← UInt8.toNat_inj, UInt8.toNat_ofNat']
    omega
  by_cases e : a = UInt8.ofNat n
  · rw [bne_eq_false_iff_eq.2 (h.2 e), decide_eq_true e]
    rfl
  · rw [bne_iff_ne.2 (fun x => e (h.1 x)), decide_eq_false e]
    rfl
theorem tag_bool (bs : List UInt8) : (((byteAt bs 0).toNat : Int) != 100 || ((byteAt bs 1).toNat : Int) != 121) = !decide (byteAt bs 0 = 100 ∧ byteAt bs 1 = 121) := by
  have v0 : (((byteAt bs 0).toNat : Int) != 100) = !decide (byteAt bs 0 = 100) := u8_ne (n := 100) (by omega)
  have v1 : (((byteAt bs 1).toNat : Int) != 121) = !decide (byteAt bs 1 = 121) := u8_ne (n := 121) (by omega)
  rw [v0, v1]
  by_cases h0 : byteAt bs 0 = 100 <;> by_cases h1 : byteAt bs 1 = 121 <;> simp [h0, h1]
set_option maxHeartbeats 4000000 in
theorem unwrap_T (bs : List UInt8) (k : Nat) (hk : k = bs.length) (hl : k ≤ 140737488355328) : Fun Tryz.prog 142 [.fv (.sl (bs.flatMap encB) k)] (.tup [.fv (.int .i64 (unwN bs : Nat)), .fv (.int .i64 (unwT bs : Nat)), .agg ((encFr (unwR bs)).map .fv), .fv (.int .i64 (unwFault bs))]) := by
  refine Fun.body tbl_ok Tryz.func142 rfl (by kernel_rfl) rfl rfl rfl ?_
  by_cases h1 : k < 6
  case pos =>
    have hf : unwFault bs = 5 := if_pos (by omega)
    obtain ⟨e1, e2, e3⟩ := unw_bad hf (by decide)
    rw [e1, e2, e3, hf]
    repeat' (first | refine X.loc ?_ | refine nx ?_ | refine X.cdT ?_ | refine X.cdF ?_ | (refine WP.condBit rfl ?_ ?_) | (refine WP.cond rfl ?_ ?_ <;> intro hcond) | refine rb ?_ | refine nd ?_ | refine dk ?_ | fail)
    exact .fun (.inl rfl) rfl rfl
  have h1' : ¬ bs.length < 6 := by omega
  have hf := (rfl : unwFault bs = unwFault bs)
  conv at hf => rhs; unfold unwFault
  rw [if_neg h1'] at hf
  have htag := tag_bool bs
  have c6 := decode_T (bs.drop 6) (k - 6) (by simp; omega) (by omega)
  have u2 := (byteAt bs 2).toNat_lt
  have u3 := (byteAt bs 3).toNat_lt
  have u4 := (byteAt bs 4).toNat_lt
  have u5 := (byteAt bs 5).toNat_lt
  repeat' (first | (apply X.loE; (· exact aR); (· first | (exact .eff (.idxBI 0 hk rfl rfl rfl rfl (by omega))) | (exact .eff (.idxBI 1 hk rfl rfl rfl rfl (by omega))) | (exact .eff (.idxBI 2 hk rfl rfl rfl rfl (by omega))) | (exact .eff (.idxBI 3 hk rfl rfl rfl rfl (by omega))) | (exact .eff (.idxBI 4 hk rfl rfl rfl rfl (by omega))) | (exact .eff (.idxBI 5 hk rfl rfl rfl rfl (by omega))) | (exact .eff (.sliLB 6 hk rfl rfl rfl rfl (by omega))) | (exact .eff (.conv8 rfl rfl rfl)) | (exact .eff (.shlB rfl rfl (by omega))) | (exact .eff (.orB rfl rfl (by omega) (by omega))) | exact .callL rfl rfl rfl (c6) rfl | exact bl (c6))) | refine X.loc ?_ | refine nx ?_ | refine X.cdT ?_ | refine X.cdF ?_ | (refine WP.condBit rfl ?_ ?_) | (refine WP.cond rfl ?_ ?_ <;> intro hcond) | (apply X.gsE; (· exact aR); (· exact aV); (· exact aW); (· intro hc; first | (exact .eff (.idxBI 0 hk rfl rfl rfl rfl (by omega))) | (exact .eff (.idxBI 1 hk rfl rfl rfl rfl (by omega))) | (exact .eff (.idxBI 2 hk rfl rfl rfl rfl (by omega))) | (exact .eff (.idxBI 3 hk rfl rfl rfl rfl (by omega))) | (exact .eff (.idxBI 4 hk rfl rfl rfl rfl (by omega))) | (exact .eff (.idxBI 5 hk rfl rfl rfl rfl (by omega))) | (exact .eff (.sliLB 6 hk rfl rfl rfl rfl (by omega))) | (exact .eff (.conv8 rfl rfl rfl)) | (exact .eff (.shlB rfl rfl (by omega))) | (exact .eff (.orB rfl rfl (by omega) (by omega))) | exact .callG rfl rfl rfl (c6) rfl | exact bg (c6)); (· exact aR)) | refine rb ?_ | refine nd ?_ | refine dk ?_ | fail)
  · rw [htag, Bool.not_eq_true', decide_eq_false_iff_not] at hcond
    rw [if_pos hcond] at hf
    obtain ⟨e1, e2, e3⟩ := unw_bad hf (by decide)
    rw [e1, e2, e3, hf]
    exact .fun (.inl rfl) rfl rfl
  · rename_i hc
    rw [htag, Bool.not_eq_false', decide_eq_true_iff] at hc
    rw [if_neg (not_not_intro hc)] at hf
    have hd := bne_iff_ne.1 hcond
    obtain ⟨e1, e2, e3⟩ := unw_bad hf hd
    rw [e1, e2, e3, hf]
    exact .fun (.inl rfl) rfl rfl
  · rename_i hc
    rw [htag, Bool.not_eq_false', decide_eq_true_iff] at hc
    rw [if_neg (not_not_intro hc)] at hf
    have hd := bne_eq_false_iff_eq.1 hcond
    rw [hd] at hf
    have e1 : unwN bs = wat bs 2 := if_neg (by omega)
    have e2 : unwT bs = wat bs 4 := if_neg (by omega)
    have e3 : unwR bs = decR (bs.drop 6) := if_neg (by omega)
    rw [e1, e2, e3, hf]
    exact .fun (.inl rfl) rfl rfl
end Go.Proofs.YtmidechdlbcepaaGreat

namespace Go.Proofs.YtmidechdlbcepaaGreat

theorem byteAt_app2 {l m : List UInt8} {i : Nat} : byteAt (l ++ m) (l.length + i) = byteAt m i := by
  unfold byteAt; rw [List.getElem?_append_right (by omega), Nat.add_sub_cancel_left]
theorem be_two {n : Nat} (h : n ≤ 65535) : 256 * (UInt8.ofNat (n / 256)).toNat + (UInt8.ofNat n).toNat = n := by
  rw [UInt8.toNat_ofNat', UInt8.toNat_ofNat']
  omega
theorem decFr_eq {n0 n1 n2 n3 n4 n5 n6 : Nat} {s : ByteArray} (h0 : n0 ≤ 65535) (h1 : n1 ≤ 65535) (h2 : n2 ≤ 255) (h3 : n3 ≤ 65535) (h4 : n4 ≤ 65535) (h5 : n5 ≤ 255) (h6 : n6 ≤ 65535) (hs : s.size ≤ 40) (z : List UInt8) :
    decFr (headF ⟨n0, n1, n2, n3, n4, n5, n6, s⟩ ++ z) = ⟨n0, n1, n2, n3, n4, n5, n6, s⟩ ∧ wat (headF ⟨n0, n1, n2, n3, n4, n5, n6, s⟩ ++ z) 12 = s.size := by
  have e : headF ⟨n0, n1, n2, n3, n4, n5, n6, s⟩ ++ z = [UInt8.ofNat (n0 / 256), UInt8.ofNat n0, UInt8.ofNat (n1 / 256), UInt8.ofNat n1, UInt8.ofNat n2, UInt8.ofNat n5, UInt8.ofNat (n3 / 256), UInt8.ofNat n3, UInt8.ofNat (n4 / 256), UInt8.ofNat n4, UInt8.ofNat (n6 / 256), UInt8.ofNat n6, 0, UInt8.ofNat s.size] ++ (s.data.toList ++ z) := by
    simp only [headF, be, Int.toNat_natCast, List.append_assoc]
    rfl
  have e1 : wat (headF ⟨n0, n1, n2, n3, n4, n5, n6, s⟩ ++ z) 12 = s.size := by
    rw [e]
    show 256 * (0 : UInt8).toNat + (UInt8.ofNat s.size).toNat = _
    rw [UInt8.toNat_ofNat']
    simp
    omega
  refine ⟨?_, e1⟩
  unfold decFr
  rw [e1, e]
  have es : (⟨(((([UInt8.ofNat (n0 / 256), UInt8.ofNat n0, UInt8.ofNat (n1 / 256), UInt8.ofNat n1, UInt8.ofNat n2, UInt8.ofNat n5, UInt8.ofNat (n3 / 256), UInt8.ofNat n3, UInt8.ofNat (n4 / 256), UInt8.ofNat n4, UInt8.ofNat (n6 / 256), UInt8.ofNat n6, 0, UInt8.ofNat s.size] ++ (s.data.toList ++ z)).drop 14).take s.size).toArray)⟩ : ByteArray) = s := by
    show (⟨((s.data.toList ++ z).take s.size).toArray⟩ : ByteArray) = s
    rw [List.take_left' (by rw [Array.length_toList]; rfl), Array.toArray_toList]
  rw [es]
  congr 1
  · show ((256 * (UInt8.ofNat (n0 / 256)).toNat + (UInt8.ofNat n0).toNat : Nat) : Int) = _
    rw [be_two h0]
  · show ((256 * (UInt8.ofNat (n1 / 256)).toNat + (UInt8.ofNat n1).toNat : Nat) : Int) = _
    rw [be_two h1]
  · show (((UInt8.ofNat n2).toNat : Nat) : Int) = _
    rw [UInt8.toNat_ofNat']
    omega
  · show ((256 * (UInt8.ofNat (n3 / 256)).toNat + (UInt8.ofNat n3).toNat : Nat) : Int) = _
    rw [be_two h3]
  · show ((256 * (UInt8.ofNat (n4 / 256)).toNat + (UInt8.ofNat n4).toNat : Nat) : Int) = _
    rw [be_two h4]
  · show (((UInt8.ofNat n5).toNat : Nat) : Int) = _
    rw [UInt8.toNat_ofNat']
    omega
  · show ((256 * (UInt8.ofNat (n6 / 256)).toNat + (UInt8.ofNat n6).toNat : Nat) : Int) = _
    rw [be_two h6]
theorem decFr_of {f : Fr} (h : frameFault f = 0) (z : List UInt8) : decFr (headF f ++ z) = f ∧ wat (headF f ++ z) 12 = f.body.size ∧ f.body.size ≤ 40 := by
  have hm := frMay h
  have hs := hm.body
  obtain ⟨n0, n1, n2, n3, n4, n5, n6, e, h0, h1, h2, h3, h4, h5, h6⟩ := fr_nat hm
  obtain ⟨a, b⟩ := decFr_eq h0 h1 h2 h3 h4 h5 h6 hs z
  rw [← e] at a b
  exact ⟨a, b, hs⟩
theorem dec_enc {f : Fr} (h : frameFault f = 0) : decFault (bytesF f) = 0 ∧ decR (bytesF f) = f := by
  obtain ⟨e1, e2, hs⟩ := decFr_of h (be (sumOf (headF f)))
  have hl := bytesF_len f
  have e3 : wat (bytesF f) (14 + f.body.size) = sumOf (headF f) := by
    rw [bytesF, ← headF_len f]
    unfold wat
    rw [byteAt_app2 (i := 1), ← Nat.add_zero (headF f).length, byteAt_app2 (i := 0)]
    exact be_two (sumOf_le _)
  have e4 : (bytesF f).take (14 + f.body.size) = headF f := by
    rw [bytesF, ← headF_len f, List.take_left']
    rfl
  have e0 : decFault (bytesF f) = 0 := by
    rw [decFault, show wat (bytesF f) 12 = f.body.size from e2, if_neg (by omega), if_neg (by omega), if_neg (by omega), if_neg (by omega), e3, e4, if_neg (by simp), show decFr (bytesF f) = f from e1, h]
  exact ⟨e0, by rw [decR, if_neg (by rw [e0]; simp)]; exact e1⟩
theorem unw_wrap {f : Fr} (h : frameFault f = 0) {n t : Nat} (hn : n ≤ 65535) (ht : t ≤ 65535) : wrapFault n t f = 0 ∧ unwFault (wrapR n t f) = 0 ∧ unwN (wrapR n t f) = n ∧ unwT (wrapR n t f) = t ∧ unwR (wrapR n t f) = f ∧ (wrapR n t f).length = 22 + f.body.size := by
  have hw : wrapFault n t f = 0 := by
    rw [wrapFault, if_neg, h]
    simp only [Decidable.not_not]
    exact ⟨word_iff.2 (by omega), word_iff.2 (by omega)⟩
  have hl := bytesF_len f
  have hr : wrapR n t f = [100, 121, UInt8.ofNat (n / 256), UInt8.ofNat n, UInt8.ofNat (t / 256), UInt8.ofNat t] ++ bytesF f := by
    rw [wrapR, if_neg (by rw [hw]; simp)]
    rfl
  obtain ⟨d1, d2⟩ := dec_enc h
  have hd : (wrapR n t f).drop 6 = bytesF f := by rw [hr]; rfl
  have hlw : (wrapR n t f).length = 22 + f.body.size := by rw [hr, List.length_append, hl]; simp; omega
  have h0 : unwFault (wrapR n t f) = 0 := by
    rw [unwFault, if_neg (by omega), hd, d1, hr, if_neg]
    simp only [Decidable.not_not]
    exact ⟨rfl, rfl⟩
  refine ⟨hw, h0, ?_, ?_, ?_, hlw⟩
  · rw [unwN, if_neg (by rw [h0]; simp), hr]
    exact be_two hn
  · rw [unwT, if_neg (by rw [h0]; simp), hr]
    exact be_two ht
  · rw [unwR, if_neg (by rw [h0]; simp), hd, d2]
end Go.Proofs.YtmidechdlbcepaaGreat

namespace Go.Proofs.YtmidechdlbcepaaGreat
open Go.RowKit
set_option maxRecDepth 100000

def pkZ : Pk := ⟨0, 0, 0, 0, 0, 0, 0, 0, 0, 0, ⟨#[]⟩⟩
end Go.Proofs.YtmidechdlbcepaaGreat

namespace Go.Proofs.YtmidechdlbcepaaGreat
open Go.RowKit
set_option maxRecDepth 100000

def pkE (f : Fr) (i n t : Int) : Int := if frameFault f ≠ 0 then frameFault f else packetFault (pkOf f i n t)
def pkR (f : Fr) (i n t : Int) : Pk := if pkE f i n t ≠ 0 then pkZ else pkOf f i n t
set_option maxHeartbeats 4000000 in
theorem packet_T (f : Fr) (i n t : Int) : Fun Tryz.prog 75 [.agg ((encFr f).map .fv), .fv (.int .i64 i), .fv (.int .i64 n), .fv (.int .i64 t)] (.tup [.agg ((encPk (pkR f i n t)).map .fv), .fv (.int .i64 (pkE f i n t))]) := by
  have c1 := wireCheck_T f
  have c2 := checkPacket_T (pkOf f i n t)
  refine Fun.body tbl_ok Tryz.func75 rfl (by kernel_rfl) rfl rfl rfl ?_
  unfold pkR pkE
  by_cases h1 : frameFault f = 0
  · rw [if_neg (show ¬ frameFault f ≠ 0 by omega)]
    by_cases h2 : packetFault (pkOf f i n t) = 0
    · rw [if_neg (show ¬ packetFault (pkOf f i n t) ≠ 0 by omega), h2]
      rw [h1] at c1
      rw [h2] at c2
      repeat' (first | (apply X.loE; (· exact aR); (· first | exact .callL rfl rfl rfl (by first | exact c1 | exact c2) rfl | exact bl (c1) | exact bl (c2))) | refine X.loc ?_ | refine nx ?_ | refine X.cdT ?_ | refine X.cdF ?_ | (refine WP.condBit rfl ?_ ?_) | (refine WP.cond rfl ?_ ?_ <;> intro hcond) | (apply X.gsE; (· exact aR); (· exact aV); (· exact aW); (· intro hc; first | exact .callG rfl rfl rfl (by first | exact c1 | exact c2) rfl | exact bg (c1) | exact bg (c2)); (· exact aR)) | refine rb ?_ | refine nd ?_ | refine dk ?_ | fail)
      exact .fun (.inl rfl) rfl rfl
    · rw [if_pos h2]
      rw [h1] at c1
      generalize packetFault (pkOf f i n t) = e at *
      repeat' (first | (apply X.loE; (· exact aR); (· first | exact .callL rfl rfl rfl (by first | exact c1 | exact c2) rfl | exact bl (c1) | exact bl (c2))) | refine X.loc ?_ | refine nx ?_ | refine X.cdT ?_ | refine X.cdF ?_ | (refine WP.condBit rfl ?_ ?_) | (refine WP.cond rfl ?_ ?_ <;> intro hcond) | (apply X.gsE; (· exact aR); (· exact aV); (· exact aW); (· intro hc; first | exact .callG rfl rfl rfl (by first | exact c1 | exact c2) rfl | exact bg (c1) | exact bg (c2)); (· exact aR)) | refine rb ?_ | refine nd ?_ | refine dk ?_ | fail)
      exact .fun (.inl rfl) rfl rfl
  · rw [if_pos h1, if_pos h1]
    generalize frameFault f = e at *
    repeat' (first | (apply X.loE; (· exact aR); (· first | exact .callL rfl rfl rfl (c1) rfl | exact bl (c1))) | refine X.loc ?_ | refine nx ?_ | refine X.cdT ?_ | refine X.cdF ?_ | (refine WP.condBit rfl ?_ ?_) | (refine WP.cond rfl ?_ ?_ <;> intro hcond) | (apply X.gsE; (· exact aR); (· exact aV); (· exact aW); (· intro hc; first | exact .callG rfl rfl rfl (c1) rfl | exact bg (c1)); (· exact aR)) | refine rb ?_ | refine nd ?_ | refine dk ?_ | fail)
    exact .fun (.inl rfl) rfl rfl
def frR (p : Pk) : Fr := if frameFault (frOfP p) ≠ 0 then frZ else frOfP p
set_option maxHeartbeats 4000000 in
theorem pframe_T (p : Pk) : Fun Tryz.prog 105 [.agg ((encPk p).map .fv)] (.tup [.agg ((encFr (frR p)).map .fv), .fv (.int .i64 (frameFault (frOfP p)))]) := by
  have c1 := wireCheck_T (frOfP p)
  refine Fun.body tbl_ok Tryz.func105 rfl (by kernel_rfl) rfl rfl rfl ?_
  unfold frR
  by_cases h1 : frameFault (frOfP p) = 0
  · rw [if_neg (show ¬ frameFault (frOfP p) ≠ 0 by omega), h1]
    rw [h1] at c1
    repeat' (first | (apply X.loE; (· exact aR); (· first | exact .callL rfl rfl rfl (c1) rfl | exact bl (c1))) | refine X.loc ?_ | refine nx ?_ | refine X.cdT ?_ | refine X.cdF ?_ | (refine WP.condBit rfl ?_ ?_) | (refine WP.cond rfl ?_ ?_ <;> intro hcond) | (apply X.gsE; (· exact aR); (· exact aV); (· exact aW); (· intro hc; first | exact .callG rfl rfl rfl (c1) rfl | exact bg (c1)); (· exact aR)) | refine rb ?_ | refine nd ?_ | refine dk ?_ | fail)
    exact .fun (.inl rfl) rfl rfl
  · rw [if_pos h1]
    generalize frameFault (frOfP p) = e at *
    repeat' (first | (apply X.loE; (· exact aR); (· first | exact .callL rfl rfl rfl (c1) rfl | exact bl (c1))) | refine X.loc ?_ | refine nx ?_ | refine X.cdT ?_ | refine X.cdF ?_ | (refine WP.condBit rfl ?_ ?_) | (refine WP.cond rfl ?_ ?_ <;> intro hcond) | (apply X.gsE; (· exact aR); (· exact aV); (· exact aW); (· intro hc; first | exact .callG rfl rfl rfl (c1) rfl | exact bg (c1)); (· exact aR)) | refine rb ?_ | refine nd ?_ | refine dk ?_ | fail)
    exact .fun (.inl rfl) rfl rfl
theorem ran_ok {L : List Fl} {p : Pk} (h1 : flowsFault L = 0) (h2 : packetFault p = 0) : ranFault L p = 0 ∧ ranR L p = ranOf L p := by
  have : ranFault L p = 0 := by
    unfold ranFault
    rw [if_neg (by omega), h2]
  exact ⟨this, by unfold ranR; rw [if_neg (by omega)]⟩
theorem packet_ok {f : Fr} {i n t : Int} (hf : FrMay f) (hi : 0 ≤ i ∧ i ≤ 65535) (hn : 0 ≤ n ∧ n ≤ 65535) (ht : 0 ≤ t ∧ t ≤ 65535) : packetFault (pkOf f i n t) = 0 := by
  have h := pw_pkOf hf hi hn ht
  unfold packetFault
  rw [if_pos, if_neg (by have := hf.body; show ¬ 40 < f.body.size; omega)]
  show List.all [_, _, _, _, _, _, _, _, _, _] word = true
  simp only [List.all_cons, List.all_nil, h.w0, h.w1, h.w2, h.w3, h.w4, h.w5, h.w6, h.w7, h.w8, h.w9, Bool.and_true]
end Go.Proofs.YtmidechdlbcepaaGreat

namespace Go.Proofs.YtmidechdlbcepaaGreat
open Go.RowKit
set_option maxRecDepth 100000

end Go.Proofs.YtmidechdlbcepaaGreat

namespace Go.Proofs.YtmidechdlbcepaaGreat
open Go.RowKit
set_option maxRecDepth 100000

end Go.Proofs.YtmidechdlbcepaaGreat

namespace Go.Proofs.YtmidechdlbcepaaGreat
open Go.RowKit
set_option maxRecDepth 100000

end Go.Proofs.YtmidechdlbcepaaGreat

namespace Go.Proofs.YtmidechdlbcepaaGreat
open Go.RowKit
set_option maxRecDepth 100000

theorem bstA_bd {l : List Ac} {q : Ac → Bool} {k : Nat} (hk : k ≤ l.length) : -1 ≤ bstA l q k ∧ (0 ≤ bstA l q k → 0 ≤ bstA l q k ∧ bstA l q k < l.length) := by
  rcases bstA_is l q k hk with ⟨h1, _⟩ | ⟨n, g, h1, _, h2, _⟩
  · omega
  · omega
def asksB (net : Int) (inn : Bool) (src dst port : Int) (a : Ac) : Bool := (a.inn == inn) && ruleFit net src dst port a
theorem allow_best (c : Cf) (net : Int) (inn : Bool) (src dst port : Int) : allowB c net inn src dst port = (decide (bstA c.acs (asksB net inn src dst port) c.acs.length < 0) || !(c.acs.getD (bstA c.acs (asksB net inn src dst port) c.acs.length).toNat ac0).deny) := by
  have h := bstA_is c.acs (asksB net inn src dst port) c.acs.length (Nat.le_refl _)
  have hb := (bstA_bd (q := asksB net inn src dst port) (Nat.le_refl c.acs.length)).2
  have hf := best_find (l := c.acs) (q1 := fun a => a.inn == inn) (q2 := ruleFit net src dst port) h
  have e : c.acs.filter (fun a => a.inn == inn) = ofKind c inn := rfl
  rw [e] at hf
  unfold allowB
  rw [hf]
  generalize bstA c.acs (asksB net inn src dst port) c.acs.length = i at *
  by_cases hi : i < 0
  · rw [if_pos hi, decide_eq_true hi]
    rfl
  · rw [if_neg hi, decide_eq_false hi, Bool.false_or]
    have := hb (by omega)
    obtain ⟨n, rfl⟩ := Int.eq_ofNat_of_zero_le this.1
    have hlt : n < c.acs.length := by omega
    simp [List.getElem?_eq_getElem hlt]
end Go.Proofs.YtmidechdlbcepaaGreat

namespace Go.Proofs.YtmidechdlbcepaaGreat
open Go.ChangeShapes Go.WideShapes Go.ChangeAt Go.RowKit Go.Deep
set_option maxRecDepth 100000

section
variable {H : Type} {enc : TypeId × Value → H} {P : Program} {w : World} {base : Nat} {spare : Nat → Bool} {held : Bool} {Cl : TypeId → DataW H → Prop}
end
end Go.Proofs.YtmidechdlbcepaaGreat
