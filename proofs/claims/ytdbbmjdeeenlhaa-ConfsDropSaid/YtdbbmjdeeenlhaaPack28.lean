/- What is wanted: may it be? The document's answer. -/
import Derived.Test.YtdbbmjdeeenlhaaPack27
import Derived.Test.YtdbbmjdeeenlhaaPack20
import Derived.Test.YtdbbmjdeeenlhaaPack23
import Derived.Test.YtdbbmjdeeenlhaaPack26
set_option linter.unusedSimpArgs false
set_option linter.unusedVariables false
namespace Go.Proofs.Ytdbbmjdeeenlhaa
open Go.RowKit
set_option maxRecDepth 100000

set_option maxHeartbeats 4000000 in
theorem confMay_T (c : Cf) (hl : c.Small) : Fun Try.prog 50 [.agg ((encCf c).map .fv)] (.fv (.bool (cfMay c))) := by
  have hl1 := hl.1
  have hl2 := hl.2.1
  have hl3 := hl.2.2
  refine Fun.body tbl_ok Try.func50 rfl (by kernel_rfl) rfl rfl rfl ?_
  repeat' (first
    | refine X.loc ?_
    | refine nx ?_
    | (refine WP.condBit rfl ?_ ?_)
    | (refine WP.cond rfl ?_ ?_ <;> intro hcond)
    | refine X.gst ?_ | refine X.gld ?_ | refine X.new ?_ | refine X.app ?_ | refine X.appS ?_ | refine X.stoW ?_ | refine X.stoB ?_ | refine X.stoR ?_ | refine X.gand ?_ | refine X.gor ?_
    | refine nd ?_
    | ((with_reducible apply drwK.mk); (· kernel_rfl); (· exact aF))
    | fail)
  refine WP.loop (ι := Nat) (fun k => ⟨[(1, .optr 1 0), (3, .optr 3 0), (4, .fv (.int .i64 k))], [ (1, .box 50 ((encCf c).map .fv)), (3, .box 50 [.osl 900, .nil, .nil]), (900, .row 52 3 (c.ss.take k).length (((c.ss.take k).flatMap encSw).map .fv))]⟩)
    (fun k => k ≤ c.ss.length ∧ k ≤ 12 ∧ swsMay ⟨[], [], []⟩ c.ss = swsMay ⟨c.ss.take k, [], []⟩ (c.ss.drop k)) (fun k => c.ss.length - k) 0 ⟨by omega, by omega, rfl⟩ ?_ ?_
  · skip
    refine St.to [(900, .nil)] [] rfl rfl ?_ ?_ <;> (repeat' (first | exact tA | refine t1 ?_ | exact tB | refine t2 ?_ ?_ | refine t3 ?_ | refine t4 ?_ ?_ | refine .ofEq ?_ | refine OB.To.cut rfl rfl ?_ ?_ ?_ ?_ | refine OB.To.box rfl rfl ?_ | refine ⟨⟨_, rfl, ?_⟩, ?_⟩ | refine ⟨?_, ?_⟩ | fail))
  rintro k ⟨hk, hk12, hd⟩
  try dsimp only
  have hlen : (c.ss.take k).length ≤ 12 := by simp; omega
  by_cases hlt : k < c.ss.length
  case pos =>
    obtain ⟨x, hx⟩ : ∃ x, c.ss[k]? = some x := ⟨_, List.getElem?_eq_getElem hlt⟩
    have hat := sws_at (ps := []) (acs := []) hx
    have hsm : Cf.Small ⟨c.ss.take k, [], []⟩ := by have := cut_small hl k 0 0; simpa using this
    repeat' (first
      | (apply X.loE; (· exact aR); (· first | (exact .eff (.idxS rfl rfl rfl encSw_len hx)) | exact .callL rfl rfl rfl (switchFault_T ⟨c.ss.take k, [], []⟩ x hsm) rfl | (apply LEff.callBL; (· rfl); (· rfl); (· exact switchFault_T ⟨c.ss.take k, [], []⟩ x hsm); (· exact aB); (· rfl))))
      | refine X.loc ?_
      | refine nx ?_
      | (refine WP.condBit rfl ?_ ?_)
      | (refine WP.cond rfl ?_ ?_ <;> intro hcond)
      | (apply X.gsE; (· exact aR); (· exact aV); (· exact aW); (· intro hc; first | (exact .eff (.idxS rfl rfl rfl encSw_len hx)) | exact .callG rfl rfl rfl (switchFault_T ⟨c.ss.take k, [], []⟩ x hsm) rfl | (apply LEff.callBG; (· rfl); (· rfl); (· exact switchFault_T ⟨c.ss.take k, [], []⟩ x hsm); (· exact aB); (· rfl))); (· exact aR))
      | refine X.gst ?_ | refine X.gld ?_ | refine X.new ?_ | refine X.app ?_ | refine X.appS ?_ | refine X.stoW ?_ | refine X.stoB ?_ | refine X.stoR ?_ | refine X.gand ?_ | refine X.gor ?_
      | refine nd ?_
      | ((with_reducible apply drwK.mk); (· kernel_rfl); (· exact aF))
      | fail)
    · refine .f1 (.inl rfl) rfl ?_
      have : cfMay c = false := by
        unfold cfMay
        rw [hd, hat, decide_eq_false (int_ne hcond)]
        rfl
      rw [this]
    · have h0 := int_eq hcond
      have := swFault_lt h0
      refine ⟨k + 1, ⟨by omega, by simp at this; omega, ?_⟩, by omega, ?_⟩
      · rw [hd, hat, decide_eq_true h0]
        rfl
      · skip
        refine St.to [(900, .id 31)] [] rfl rfl ?_ ?_ <;> (repeat' (first | exact tA | refine t1 ?_ | exact tB | refine t2 ?_ ?_ | refine t3 ?_ | refine t4 ?_ ?_ | refine .ofEq ?_ | refine OB.To.cut rfl rfl ?_ ?_ ?_ ?_ | refine OB.To.box rfl rfl ?_ | refine ⟨⟨_, rfl, ?_⟩, ?_⟩ | refine ⟨?_, ?_⟩ | fail))
        all_goals first | exact (take_len hx).symm | (rw [take_flat hx, List.map_append]; rfl)
    · exfalso
      simp at hcond
      omega
  case neg =>
    have hek : k = c.ss.length := by omega
    subst hek
    rw [List.drop_of_length_le (Nat.le_refl _)] at hd
    have hsw : swsMay ⟨[], [], []⟩ c.ss = true := hd
    repeat' (first
      | refine X.loc ?_
      | refine nx ?_
      | (refine WP.condBit rfl ?_ ?_)
      | (refine WP.cond rfl ?_ ?_ <;> intro hcond)
      | refine X.gst ?_ | refine X.gld ?_ | refine X.new ?_ | refine X.app ?_ | refine X.appS ?_ | refine X.stoW ?_ | refine X.stoB ?_ | refine X.stoR ?_ | refine X.gand ?_ | refine X.gor ?_
      | refine nd ?_
      | ((with_reducible apply drwK.mk); (· kernel_rfl); (· exact aF))
      | fail)
    · exfalso
      simp at hcond
    refine WP.loop (ι := Nat) (fun k => ⟨[(1, .optr 1 0), (3, .optr 3 0), (5, .fv (.int .i64 k))], [ (1, .box 50 ((encCf c).map .fv)), (3, .box 50 [.osl 900, .osl 901, .nil]), (900, .row 52 3 c.ss.length ((c.ss.flatMap encSw).map .fv)), (901, .row 54 5 (c.ps.take k).length (((c.ps.take k).flatMap encPo).map .fv))]⟩)
      (fun k => k ≤ c.ps.length ∧ k ≤ 40 ∧ Cf.Wf ⟨c.ss, c.ps.take k, []⟩ ∧ posMay ⟨c.ss, [], []⟩ c.ps = posMay ⟨c.ss, c.ps.take k, []⟩ (c.ps.drop k)) (fun k => c.ps.length - k) 0 ⟨by omega, by omega, (by intro p hp; simp at hp), rfl⟩ ?_ ?_
    · skip
      refine St.to [(901, .nil)] [] rfl rfl ?_ ?_ <;> (repeat' (first | exact tA | refine t1 ?_ | exact tB | refine t2 ?_ ?_ | refine t3 ?_ | refine t4 ?_ ?_ | refine .ofEq ?_ | refine OB.To.cut rfl rfl ?_ ?_ ?_ ?_ | refine OB.To.box rfl rfl ?_ | refine ⟨⟨_, rfl, ?_⟩, ?_⟩ | refine ⟨?_, ?_⟩ | fail))
      all_goals rw [List.take_of_length_le (Nat.le_refl _)]
    rintro k ⟨hk, hk40, hwf, hd⟩
    try dsimp only
    have hlen : (c.ps.take k).length ≤ 40 := by simp; omega
    by_cases hlt : k < c.ps.length
    case pos =>
      obtain ⟨x, hx⟩ : ∃ x, c.ps[k]? = some x := ⟨_, List.getElem?_eq_getElem hlt⟩
      have hat := pos_at (ss := c.ss) (acs := []) hx
      have hsm : Cf.Small ⟨c.ss, c.ps.take k, []⟩ := by have := cut_small hl c.ss.length k 0; simpa using this
      repeat' (first
        | (apply X.loE; (· exact aR); (· first | (exact .eff (.idxS rfl rfl rfl encPo_len hx)) | exact .callL rfl rfl rfl (portFault_T ⟨c.ss, c.ps.take k, []⟩ x hsm) rfl | (apply LEff.callBL; (· rfl); (· rfl); (· exact portFault_T ⟨c.ss, c.ps.take k, []⟩ x hsm); (· exact aB); (· rfl))))
        | refine X.loc ?_
        | refine nx ?_
        | (refine WP.condBit rfl ?_ ?_)
        | (refine WP.cond rfl ?_ ?_ <;> intro hcond)
        | (apply X.gsE; (· exact aR); (· exact aV); (· exact aW); (· intro hc; first | (exact .eff (.idxS rfl rfl rfl encPo_len hx)) | exact .callG rfl rfl rfl (portFault_T ⟨c.ss, c.ps.take k, []⟩ x hsm) rfl | (apply LEff.callBG; (· rfl); (· rfl); (· exact portFault_T ⟨c.ss, c.ps.take k, []⟩ x hsm); (· exact aB); (· rfl))); (· exact aR))
        | refine X.gst ?_ | refine X.gld ?_ | refine X.new ?_ | refine X.app ?_ | refine X.appS ?_ | refine X.stoW ?_ | refine X.stoB ?_ | refine X.stoR ?_ | refine X.gand ?_ | refine X.gor ?_
        | refine nd ?_
        | ((with_reducible apply drwK.mk); (· kernel_rfl); (· exact aF))
        | fail)
      · refine .f1 (.inl rfl) rfl ?_
        have : cfMay c = false := by
          unfold cfMay
          rw [hd, hat, decide_eq_false (int_ne hcond), hsw]
          rfl
        rw [this]
      · have h0 := int_eq hcond
        have := poFault_lt h0
        refine ⟨k + 1, ⟨by omega, by have := this.1; simp at this; omega, ?_, ?_⟩, by omega, ?_⟩
        · exact take_all (p := fun p : Po => c.ss.any (fun x => x.id == p.sw) = true) hx hwf this.2
        · rw [hd, hat, decide_eq_true h0]
          rfl
        · skip
          refine St.to [(901, .id 56)] [] rfl rfl ?_ ?_ <;> (repeat' (first | exact tA | refine t1 ?_ | exact tB | refine t2 ?_ ?_ | refine t3 ?_ | refine t4 ?_ ?_ | refine .ofEq ?_ | refine OB.To.cut rfl rfl ?_ ?_ ?_ ?_ | refine OB.To.box rfl rfl ?_ | refine ⟨⟨_, rfl, ?_⟩, ?_⟩ | refine ⟨?_, ?_⟩ | fail))
          all_goals first | exact (take_len hx).symm | (rw [take_flat hx, List.map_append]; rfl)
      · exfalso
        simp at hcond
        omega
    case neg =>
      have hek : k = c.ps.length := by omega
      subst hek
      rw [List.drop_of_length_le (Nat.le_refl _)] at hd
      have hpo : posMay ⟨c.ss, [], []⟩ c.ps = true := hd
      repeat' (first
        | refine X.loc ?_
        | refine nx ?_
        | (refine WP.condBit rfl ?_ ?_)
        | (refine WP.cond rfl ?_ ?_ <;> intro hcond)
        | refine X.gst ?_ | refine X.gld ?_ | refine X.new ?_ | refine X.app ?_ | refine X.appS ?_ | refine X.stoW ?_ | refine X.stoB ?_ | refine X.stoR ?_ | refine X.gand ?_ | refine X.gor ?_
        | refine nd ?_
        | ((with_reducible apply drwK.mk); (· kernel_rfl); (· exact aF))
        | fail)
      · exfalso
        simp at hcond
      refine WP.loop (ι := Nat) (fun k => ⟨[(1, .optr 1 0), (3, .optr 3 0), (6, .fv (.int .i64 k))], [ (1, .box 50 ((encCf c).map .fv)), (3, .box 50 [.osl 900, .osl 901, .osl 902]), (900, .row 52 3 c.ss.length ((c.ss.flatMap encSw).map .fv)), (901, .row 54 5 c.ps.length ((c.ps.flatMap encPo).map .fv)), (902, .row 56 9 (c.acs.take k).length (((c.acs.take k).flatMap encAc).map .fv))]⟩)
        (fun k => k ≤ c.acs.length ∧ k ≤ 40 ∧ acsMay ⟨c.ss, c.ps, []⟩ c.acs = acsMay ⟨c.ss, c.ps, c.acs.take k⟩ (c.acs.drop k)) (fun k => c.acs.length - k) 0 ⟨by omega, by omega, rfl⟩ ?_ ?_
      · skip
        refine St.to [(902, .nil)] [] rfl rfl ?_ ?_ <;> (repeat' (first | exact tA | refine t1 ?_ | exact tB | refine t2 ?_ ?_ | refine t3 ?_ | refine t4 ?_ ?_ | refine .ofEq ?_ | refine OB.To.cut rfl rfl ?_ ?_ ?_ ?_ | refine OB.To.box rfl rfl ?_ | refine ⟨⟨_, rfl, ?_⟩, ?_⟩ | refine ⟨?_, ?_⟩ | fail))
        all_goals rw [List.take_of_length_le (Nat.le_refl _)]
      rintro k ⟨hk, hk40, hd⟩
      try dsimp only
      have hlen : (c.acs.take k).length ≤ 40 := by simp; omega
      by_cases hlt : k < c.acs.length
      case pos =>
        obtain ⟨x, hx⟩ : ∃ x, c.acs[k]? = some x := ⟨_, List.getElem?_eq_getElem hlt⟩
        have hat := acs_at (ss := c.ss) (ps := c.ps) hx
        have hsm : Cf.Small ⟨c.ss, c.ps, c.acs.take k⟩ := by have := cut_small hl c.ss.length c.ps.length k; simpa using this
        repeat' (first
          | (apply X.loE; (· exact aR); (· first | (exact .eff (.idxS rfl rfl rfl encAc_len hx)) | exact .callL rfl rfl rfl (aclFault_T ⟨c.ss, c.ps, c.acs.take k⟩ x hsm) rfl | (apply LEff.callBL; (· rfl); (· rfl); (· exact aclFault_T ⟨c.ss, c.ps, c.acs.take k⟩ x hsm); (· exact aB); (· rfl))))
          | refine X.loc ?_
          | refine nx ?_
          | (refine WP.condBit rfl ?_ ?_)
          | (refine WP.cond rfl ?_ ?_ <;> intro hcond)
          | (apply X.gsE; (· exact aR); (· exact aV); (· exact aW); (· intro hc; first | (exact .eff (.idxS rfl rfl rfl encAc_len hx)) | exact .callG rfl rfl rfl (aclFault_T ⟨c.ss, c.ps, c.acs.take k⟩ x hsm) rfl | (apply LEff.callBG; (· rfl); (· rfl); (· exact aclFault_T ⟨c.ss, c.ps, c.acs.take k⟩ x hsm); (· exact aB); (· rfl))); (· exact aR))
          | refine X.gst ?_ | refine X.gld ?_ | refine X.new ?_ | refine X.app ?_ | refine X.appS ?_ | refine X.stoW ?_ | refine X.stoB ?_ | refine X.stoR ?_ | refine X.gand ?_ | refine X.gor ?_
          | refine nd ?_
          | ((with_reducible apply drwK.mk); (· kernel_rfl); (· exact aF))
          | fail)
        · refine .f1 (.inl rfl) rfl ?_
          have : cfMay c = false := by
            unfold cfMay
            rw [hd, hat, decide_eq_false (int_ne hcond), hsw, hpo]
            rfl
          rw [this]
        · have h0 := int_eq hcond
          have := acFault_lt h0
          refine ⟨k + 1, ⟨by omega, by simp at this; omega, ?_⟩, by omega, ?_⟩
          · rw [hd, hat, decide_eq_true h0]
            rfl
          · skip
            refine St.to [(902, .id 81)] [] rfl rfl ?_ ?_ <;> (repeat' (first | exact tA | refine t1 ?_ | exact tB | refine t2 ?_ ?_ | refine t3 ?_ | refine t4 ?_ ?_ | refine .ofEq ?_ | refine OB.To.cut rfl rfl ?_ ?_ ?_ ?_ | refine OB.To.box rfl rfl ?_ | refine ⟨⟨_, rfl, ?_⟩, ?_⟩ | refine ⟨?_, ?_⟩ | fail))
            all_goals first | exact (take_len hx).symm | (rw [take_flat hx, List.map_append]; rfl)
        · exfalso
          simp at hcond
          omega
      case neg =>
        have hek : k = c.acs.length := by omega
        subst hek
        rw [List.drop_of_length_le (Nat.le_refl _)] at hd
        have hac : acsMay ⟨c.ss, c.ps, []⟩ c.acs = true := hd
        have hall : cfMay c = true := by
          unfold cfMay
          rw [hsw, hpo, hac]
          rfl
        repeat' (first
          | refine X.loc ?_
          | refine nx ?_
          | (refine WP.condBit rfl ?_ ?_)
          | (refine WP.cond rfl ?_ ?_ <;> intro hcond)
          | refine X.gst ?_ | refine X.gld ?_ | refine X.new ?_ | refine X.app ?_ | refine X.appS ?_ | refine X.stoW ?_ | refine X.stoB ?_ | refine X.stoR ?_ | refine X.gand ?_ | refine X.gor ?_
          | refine nd ?_
          | ((with_reducible apply drwK.mk); (· kernel_rfl); (· exact aF))
          | fail)
        · exfalso
          simp at hcond
        · refine .f1 (.inl rfl) rfl ?_
          rw [hall]
end Go.Proofs.Ytdbbmjdeeenlhaa

/- Copies in memory of their own; what is cut out of a row. -/
namespace Go.Proofs.Ytdbbmjdeeenlhaa
open Go.RowKit
set_option maxRecDepth 100000

theorem cloneSw_T (l : List Sw) (hl : l.length * 24 ≤ 140737488355328) : FunO Try.prog 71 [.fv (slOf encSw l)] [] (.osl 7) [(7, .row 52 3 l.length ((l.flatMap encSw).map .fv))] := by
  refine FunO.bodyL tbl_ok Try.func71 rfl (by kernel_rfl) rfl rfl rfl ?_
  rcases Nat.eq_zero_or_pos l.length with h0 | h0
  · obtain rfl := List.eq_nil_of_length_eq_zero h0
    repeat' (first
      | refine X.loc ?_
      | refine nx ?_
      | (refine WP.condBit rfl ?_ ?_)
      | (refine WP.cond rfl ?_ ?_ <;> intro hcond)
      | refine X.gst ?_ | refine X.gld ?_ | refine X.new ?_ | refine X.app ?_ | refine X.appS ?_ | refine X.stoW ?_ | refine X.stoB ?_ | refine X.stoR ?_ | refine X.gand ?_ | refine X.gor ?_
      | refine nd ?_
      | ((with_reducible apply drwK.mk); (· kernel_rfl); (· exact aF))
      | fail)
    · skip
      refine .ofL (s' := ⟨[(2, .osl 7)], [(7, .row 52 3 0 [])]⟩) (by first | exact .inl rfl | exact .inr rfl) ?_ rfl rfl (by repeat' (first | exact trivial | refine ⟨⟨_, rfl, fun _ _ _ _ h => h⟩, ?_⟩))
      refine St.to [(7, .nil)] [] rfl rfl ?_ ?_ <;> (repeat' (first | exact tA | refine t1 ?_ | exact tB | refine t2 ?_ ?_ | refine t3 ?_ | refine t4 ?_ ?_ | refine .ofEq ?_ | refine OB.To.cut rfl rfl ?_ ?_ ?_ ?_ | refine OB.To.box rfl rfl ?_ | refine ⟨⟨_, rfl, ?_⟩, ?_⟩ | refine ⟨?_, ?_⟩ | fail))
    · skip
      refine .ofL (s' := ⟨[(2, .osl 7)], [(7, .row 52 3 0 [])]⟩) (by first | exact .inl rfl | exact .inr rfl) ?_ rfl rfl (by repeat' (first | exact trivial | refine ⟨⟨_, rfl, fun _ _ _ _ h => h⟩, ?_⟩))
      refine St.to [(7, .id 7)] [] rfl rfl ?_ ?_ <;> (repeat' (first | exact tA | refine t1 ?_ | exact tB | refine t2 ?_ ?_ | refine t3 ?_ | refine t4 ?_ ?_ | refine .ofEq ?_ | refine OB.To.cut rfl rfl ?_ ?_ ?_ ?_ | refine OB.To.box rfl rfl ?_ | refine ⟨⟨_, rfl, ?_⟩, ?_⟩ | refine ⟨?_, ?_⟩ | fail))
      rfl
  · skip
    repeat' (first
      | refine X.loc ?_
      | refine nx ?_
      | (refine WP.condBit rfl ?_ ?_)
      | (refine WP.cond rfl ?_ ?_ <;> intro hcond)
      | refine X.gst ?_ | refine X.gld ?_ | refine X.new ?_ | refine X.app ?_ | refine X.appS ?_ | refine X.stoW ?_ | refine X.stoB ?_ | refine X.stoR ?_ | refine X.gand ?_ | refine X.gor ?_
      | refine nd ?_
      | ((with_reducible apply drwK.mk); (· kernel_rfl); (· exact aF))
      | fail)
    refine .ofL (s' := ⟨[(2, .osl 7)], [(7, .row 52 3 l.length ((l.flatMap encSw).map .fv))]⟩) (by first | exact .inl rfl | exact .inr rfl) ?_ rfl rfl (by repeat' (first | exact trivial | refine ⟨⟨_, rfl, fun _ _ _ _ h => h⟩, ?_⟩))
    refine St.to [(7, .id 7)] [] rfl rfl ?_ ?_ <;> (repeat' (first | exact tA | refine t1 ?_ | exact tB | refine t2 ?_ ?_ | refine t3 ?_ | refine t4 ?_ ?_ | refine .ofEq ?_ | refine OB.To.cut rfl rfl ?_ ?_ ?_ ?_ | refine OB.To.box rfl rfl ?_ | refine ⟨⟨_, rfl, ?_⟩, ?_⟩ | refine ⟨?_, ?_⟩ | fail))
    all_goals first | omega | simp
theorem clonePo_T (l : List Po) (hl : l.length * 40 ≤ 140737488355328) : FunO Try.prog 48 [.fv (slOf encPo l)] [] (.osl 7) [(7, .row 54 5 l.length ((l.flatMap encPo).map .fv))] := by
  refine FunO.bodyL tbl_ok Try.func48 rfl (by kernel_rfl) rfl rfl rfl ?_
  rcases Nat.eq_zero_or_pos l.length with h0 | h0
  · obtain rfl := List.eq_nil_of_length_eq_zero h0
    repeat' (first
      | refine X.loc ?_
      | refine nx ?_
      | (refine WP.condBit rfl ?_ ?_)
      | (refine WP.cond rfl ?_ ?_ <;> intro hcond)
      | refine X.gst ?_ | refine X.gld ?_ | refine X.new ?_ | refine X.app ?_ | refine X.appS ?_ | refine X.stoW ?_ | refine X.stoB ?_ | refine X.stoR ?_ | refine X.gand ?_ | refine X.gor ?_
      | refine nd ?_
      | ((with_reducible apply drwK.mk); (· kernel_rfl); (· exact aF))
      | fail)
    · skip
      refine .ofL (s' := ⟨[(2, .osl 7)], [(7, .row 54 5 0 [])]⟩) (by first | exact .inl rfl | exact .inr rfl) ?_ rfl rfl (by repeat' (first | exact trivial | refine ⟨⟨_, rfl, fun _ _ _ _ h => h⟩, ?_⟩))
      refine St.to [(7, .nil)] [] rfl rfl ?_ ?_ <;> (repeat' (first | exact tA | refine t1 ?_ | exact tB | refine t2 ?_ ?_ | refine t3 ?_ | refine t4 ?_ ?_ | refine .ofEq ?_ | refine OB.To.cut rfl rfl ?_ ?_ ?_ ?_ | refine OB.To.box rfl rfl ?_ | refine ⟨⟨_, rfl, ?_⟩, ?_⟩ | refine ⟨?_, ?_⟩ | fail))
    · skip
      refine .ofL (s' := ⟨[(2, .osl 7)], [(7, .row 54 5 0 [])]⟩) (by first | exact .inl rfl | exact .inr rfl) ?_ rfl rfl (by repeat' (first | exact trivial | refine ⟨⟨_, rfl, fun _ _ _ _ h => h⟩, ?_⟩))
      refine St.to [(7, .id 7)] [] rfl rfl ?_ ?_ <;> (repeat' (first | exact tA | refine t1 ?_ | exact tB | refine t2 ?_ ?_ | refine t3 ?_ | refine t4 ?_ ?_ | refine .ofEq ?_ | refine OB.To.cut rfl rfl ?_ ?_ ?_ ?_ | refine OB.To.box rfl rfl ?_ | refine ⟨⟨_, rfl, ?_⟩, ?_⟩ | refine ⟨?_, ?_⟩ | fail))
      rfl
  · skip
    repeat' (first
      | refine X.loc ?_
      | refine nx ?_
      | (refine WP.condBit rfl ?_ ?_)
      | (refine WP.cond rfl ?_ ?_ <;> intro hcond)
      | refine X.gst ?_ | refine X.gld ?_ | refine X.new ?_ | refine X.app ?_ | refine X.appS ?_ | refine X.stoW ?_ | refine X.stoB ?_ | refine X.stoR ?_ | refine X.gand ?_ | refine X.gor ?_
      | refine nd ?_
      | ((with_reducible apply drwK.mk); (· kernel_rfl); (· exact aF))
      | fail)
    refine .ofL (s' := ⟨[(2, .osl 7)], [(7, .row 54 5 l.length ((l.flatMap encPo).map .fv))]⟩) (by first | exact .inl rfl | exact .inr rfl) ?_ rfl rfl (by repeat' (first | exact trivial | refine ⟨⟨_, rfl, fun _ _ _ _ h => h⟩, ?_⟩))
    refine St.to [(7, .id 7)] [] rfl rfl ?_ ?_ <;> (repeat' (first | exact tA | refine t1 ?_ | exact tB | refine t2 ?_ ?_ | refine t3 ?_ | refine t4 ?_ ?_ | refine .ofEq ?_ | refine OB.To.cut rfl rfl ?_ ?_ ?_ ?_ | refine OB.To.box rfl rfl ?_ | refine ⟨⟨_, rfl, ?_⟩, ?_⟩ | refine ⟨?_, ?_⟩ | fail))
    all_goals first | omega | simp
theorem cloneAc_T (l : List Ac) (hl : l.length * 72 ≤ 140737488355328) : FunO Try.prog 72 [.fv (slOf encAc l)] [] (.osl 7) [(7, .row 56 9 l.length ((l.flatMap encAc).map .fv))] := by
  refine FunO.bodyL tbl_ok Try.func72 rfl (by kernel_rfl) rfl rfl rfl ?_
  rcases Nat.eq_zero_or_pos l.length with h0 | h0
  · obtain rfl := List.eq_nil_of_length_eq_zero h0
    repeat' (first
      | refine X.loc ?_
      | refine nx ?_
      | (refine WP.condBit rfl ?_ ?_)
      | (refine WP.cond rfl ?_ ?_ <;> intro hcond)
      | refine X.gst ?_ | refine X.gld ?_ | refine X.new ?_ | refine X.app ?_ | refine X.appS ?_ | refine X.stoW ?_ | refine X.stoB ?_ | refine X.stoR ?_ | refine X.gand ?_ | refine X.gor ?_
      | refine nd ?_
      | ((with_reducible apply drwK.mk); (· kernel_rfl); (· exact aF))
      | fail)
    · skip
      refine .ofL (s' := ⟨[(2, .osl 7)], [(7, .row 56 9 0 [])]⟩) (by first | exact .inl rfl | exact .inr rfl) ?_ rfl rfl (by repeat' (first | exact trivial | refine ⟨⟨_, rfl, fun _ _ _ _ h => h⟩, ?_⟩))
      refine St.to [(7, .nil)] [] rfl rfl ?_ ?_ <;> (repeat' (first | exact tA | refine t1 ?_ | exact tB | refine t2 ?_ ?_ | refine t3 ?_ | refine t4 ?_ ?_ | refine .ofEq ?_ | refine OB.To.cut rfl rfl ?_ ?_ ?_ ?_ | refine OB.To.box rfl rfl ?_ | refine ⟨⟨_, rfl, ?_⟩, ?_⟩ | refine ⟨?_, ?_⟩ | fail))
    · skip
      refine .ofL (s' := ⟨[(2, .osl 7)], [(7, .row 56 9 0 [])]⟩) (by first | exact .inl rfl | exact .inr rfl) ?_ rfl rfl (by repeat' (first | exact trivial | refine ⟨⟨_, rfl, fun _ _ _ _ h => h⟩, ?_⟩))
      refine St.to [(7, .id 7)] [] rfl rfl ?_ ?_ <;> (repeat' (first | exact tA | refine t1 ?_ | exact tB | refine t2 ?_ ?_ | refine t3 ?_ | refine t4 ?_ ?_ | refine .ofEq ?_ | refine OB.To.cut rfl rfl ?_ ?_ ?_ ?_ | refine OB.To.box rfl rfl ?_ | refine ⟨⟨_, rfl, ?_⟩, ?_⟩ | refine ⟨?_, ?_⟩ | fail))
      rfl
  · skip
    repeat' (first
      | refine X.loc ?_
      | refine nx ?_
      | (refine WP.condBit rfl ?_ ?_)
      | (refine WP.cond rfl ?_ ?_ <;> intro hcond)
      | refine X.gst ?_ | refine X.gld ?_ | refine X.new ?_ | refine X.app ?_ | refine X.appS ?_ | refine X.stoW ?_ | refine X.stoB ?_ | refine X.stoR ?_ | refine X.gand ?_ | refine X.gor ?_
      | refine nd ?_
      | ((with_reducible apply drwK.mk); (· kernel_rfl); (· exact aF))
      | fail)
    refine .ofL (s' := ⟨[(2, .osl 7)], [(7, .row 56 9 l.length ((l.flatMap encAc).map .fv))]⟩) (by first | exact .inl rfl | exact .inr rfl) ?_ rfl rfl (by repeat' (first | exact trivial | refine ⟨⟨_, rfl, fun _ _ _ _ h => h⟩, ?_⟩))
    refine St.to [(7, .id 7)] [] rfl rfl ?_ ?_ <;> (repeat' (first | exact tA | refine t1 ?_ | exact tB | refine t2 ?_ ?_ | refine t3 ?_ | refine t4 ?_ ?_ | refine .ofEq ?_ | refine OB.To.cut rfl rfl ?_ ?_ ?_ ?_ | refine OB.To.box rfl rfl ?_ | refine ⟨⟨_, rfl, ?_⟩, ?_⟩ | refine ⟨?_, ?_⟩ | fail))
    all_goals first | omega | simp
/-- What is wanted finds room. -/
def Cf.Fit (c : Cf) : Prop := c.ss.length * 24 ≤ 140737488355328 ∧ c.ps.length * 40 ≤ 140737488355328 ∧ c.acs.length * 72 ≤ 140737488355328
theorem Cf.Fit.small {c : Cf} (h : c.Fit) : c.Small := by
  obtain ⟨h1, h2, h3⟩ := h
  exact ⟨by omega, by omega, by omega⟩
theorem copy_T (c : Cf) (hl : c.Fit) : FunO Try.prog 28 [.agg ((encCf c).map .fv)] [] (.agg [.osl 7, .osl 8, .osl 9]) [(7, .row 52 3 c.ss.length ((c.ss.flatMap encSw).map .fv)), (8, .row 54 5 c.ps.length ((c.ps.flatMap encPo).map .fv)), (9, .row 56 9 c.acs.length ((c.acs.flatMap encAc).map .fv))] := by
  have hl1 := hl.1
  have hl2 := hl.2.1
  have hl3 := hl.2.2
  refine FunO.bodyL tbl_ok Try.func28 rfl (by kernel_rfl) rfl rfl rfl ?_
  repeat' (first
    | refine X.loc ?_
    | refine nx ?_
    | (refine WP.condBit rfl ?_ ?_)
    | (refine WP.cond rfl ?_ ?_ <;> intro hcond)
    | refine X.gst ?_ | refine X.gld ?_ | refine X.new ?_ | refine X.app ?_ | refine X.appS ?_ | refine X.stoW ?_ | refine X.stoB ?_ | refine X.stoR ?_ | refine X.gand ?_ | refine X.gor ?_
    | (apply X.cal false; (· exact aR); (· exact cloneSw_T c.ss (by omega)); (· exact aC))
    | (apply X.cal false; (· exact aR); (· exact clonePo_T c.ps (by omega)); (· exact aC))
    | (apply X.cal false; (· exact aR); (· exact cloneAc_T c.acs (by omega)); (· exact aC))
    | refine nd ?_
    | ((with_reducible apply drwK.mk); (· kernel_rfl); (· exact aF))
    | fail)
  refine .ofL (s' := ⟨[(2, .optr 2 0)], [(2, .box 50 [.osl 7, .osl 8, .osl 9]), (7, .row 52 3 c.ss.length ((c.ss.flatMap encSw).map .fv)), (8, .row 54 5 c.ps.length ((c.ps.flatMap encPo).map .fv)), (9, .row 56 9 c.acs.length ((c.acs.flatMap encAc).map .fv))]⟩) (by first | exact .inl rfl | exact .inr rfl) ?_ rfl rfl (by repeat' (first | exact trivial | refine ⟨⟨_, rfl, fun _ _ _ _ h => h⟩, ?_⟩))
  refine St.to [(7, .id 5), (8, .id 8), (9, .id 11)] [] rfl rfl ?_ ?_ <;> (repeat' (first | exact tA | refine t1 ?_ | exact tB | refine t2 ?_ ?_ | refine t3 ?_ | refine t4 ?_ ?_ | refine .ofEq ?_ | refine OB.To.cut rfl rfl ?_ ?_ ?_ ?_ | refine OB.To.box rfl rfl ?_ | refine ⟨⟨_, rfl, ?_⟩, ?_⟩ | refine ⟨?_, ?_⟩ | fail))

/-- One element cut out of a row: the cells. -/
theorem del_cells {α : Type} {enc : α → List FV} {s : Nat} (hs : ∀ x, (enc x).length = s) (l : List α) (i : Nat) (hi : i < l.length) :
    ∃ cs1 : List AV, setC ((l.flatMap enc).map AV.fv) ((0 + i) * s) ((((l.flatMap enc).map AV.fv).drop ((i + 1) * s)).take ((l.length - (i + 1)) * s)) = some cs1 ∧ cs1.length = l.length * s ∧ cs1.take ((i + (l.length - (i + 1))) * s) = (((l.eraseIdx i).flatMap enc).map AV.fv) := by
  have hlen : ((l.flatMap enc).map AV.fv).length = l.length * s := by rw [List.length_map, flatMap_len hs]
  have e1 : (l.flatMap enc).drop ((i + 1) * s) = (l.drop (i + 1)).flatMap enc := by
    have h1 : (l.take (i + 1) ++ l.drop (i + 1)).flatMap enc = l.flatMap enc := by rw [List.take_append_drop]
    rw [← h1, List.flatMap_append, List.drop_append_of_le_length (by rw [flatMap_len hs, List.length_take]; rw [Nat.min_eq_left (by omega)]; exact Nat.le_refl _), List.drop_of_length_le (by rw [flatMap_len hs, List.length_take, Nat.min_eq_left (by omega)]; exact Nat.le_refl _), List.nil_append]
  have e2 : (l.flatMap enc).take (i * s) = (l.take i).flatMap enc := by
    have h1 : (l.take i ++ l.drop i).flatMap enc = l.flatMap enc := by rw [List.take_append_drop]
    have h2 : ((l.take i).flatMap enc).length = i * s := by rw [flatMap_len hs, List.length_take, Nat.min_eq_left (by omega)]
    rw [← h1, List.flatMap_append, ← h2, List.take_left']
    rfl
  have e3 : ((l.drop (i + 1)).flatMap enc).length = (l.length - (i + 1)) * s := by rw [flatMap_len hs, List.length_drop]
  have e4 : (((l.flatMap enc).map AV.fv).drop ((i + 1) * s)).take ((l.length - (i + 1)) * s) = ((l.drop (i + 1)).flatMap enc).map AV.fv := by
    rw [← List.map_drop, e1, List.take_of_length_le (by rw [List.length_map, e3]; exact Nat.le_refl _)]
  have hm : (i + (l.length - (i + 1))) * s = i * s + (l.length - (i + 1)) * s := Nat.add_mul _ _ _
  have hle : (i + (l.length - (i + 1))) * s ≤ l.length * s := Nat.mul_le_mul_right s (by omega)
  rw [e4, Nat.zero_add]
  have h6 := setC_mk (cs := (l.flatMap enc).map AV.fv) (off := i * s) (us := ((l.drop (i + 1)).flatMap enc).map AV.fv) (by rw [List.length_map, e3, hlen]; omega)
  refine ⟨_, h6, ?_, ?_⟩
  · rw [List.length_append, List.length_append, List.length_take, List.length_drop, hlen, List.length_map, e3]
    omega
  · rw [← List.map_take, e2, hm, List.take_append_of_le_length (by rw [List.length_append, List.length_map, List.length_map, e3, flatMap_len hs, List.length_take, Nat.min_eq_left (by omega)]; exact Nat.le_refl _), List.take_of_length_le (by rw [List.length_append, List.length_map, List.length_map, e3, flatMap_len hs, List.length_take, Nat.min_eq_left (by omega)]; exact Nat.le_refl _), ← List.map_append, ← List.flatMap_append, List.eraseIdx_eq_take_drop_succ]
theorem clr_cells {cs1 us cs2 : List AV} {n : Nat} (h : setC cs1 n us = some cs2) : cs2.take n = cs1.take n := by
  obtain ⟨h1, rfl⟩ := setC_eq h
  rw [List.append_assoc, List.take_append_of_le_length (by rw [List.length_take]; omega), List.take_take, Nat.min_self]

def zi : AV := .fv (.int .i64 0)
def zb : AV := .fv (.bool false)
theorem deletePo_T (l : List Po) (i : Nat) (j : Int) (hj : j = ((i + 1 : Nat) : Int)) (hi : i < l.length) (hl : l.length * 40 ≤ 140737488355328) : FunO Try.prog 47 [.osl 1000, .fv (.int .i64 (i : Int)), .fv (.int .i64 j)] [(1000, .row 54 5 l.length ((l.flatMap encPo).map .fv))] (.osl 7) [(7, .row 54 5 (l.length - 1) (((l.eraseIdx i).flatMap encPo).map .fv))] := by
  subst hj
  obtain ⟨cs1, h1, h2, h3⟩ := del_cells encPo_len l i hi
  have hclr : ∀ zs : List AV, zs.length = 5 → ∃ cs2, setC cs1 ((0 + (i + (l.length - (i + 1)))) * 5) ((List.replicate (l.length - (i + (l.length - (i + 1)))) zs).flatten) = some cs2 ∧ cs2.take ((i + (l.length - (i + 1))) * 5) = (((l.eraseIdx i).flatMap encPo).map AV.fv) := fun zs hz => by
    have h6 := setC_mk (cs := cs1) (off := (0 + (i + (l.length - (i + 1)))) * 5) (us := (List.replicate (l.length - (i + (l.length - (i + 1)))) zs).flatten) (by
      rw [h2, List.length_flatten, List.map_replicate, List.sum_replicate_nat, hz]
      omega)
    refine ⟨_, h6, ?_⟩
    have := clr_cells h6
    rw [Nat.zero_add] at this
    rw [← h3, ← this, Nat.zero_add]
  obtain ⟨cs2, h4, h5⟩ := hclr [zi, zi, zi, zi, zi] rfl
  generalize hcs : (l.flatMap encPo).map AV.fv = cs at h1
  have hones : onesB cs = true := by subst hcs; exact onesB_map _
  refine FunO.bodyL tbl_ok Try.func47 rfl (by kernel_rfl) rfl rfl rfl ?_
  repeat' (first
    | refine X.loc ?_
    | (refine X.sl3 ?_)
    | (apply X.appB; (· exact aR); (· exact hones); (· omega); (· exact h1); (· exact aE))
    | (apply X.clr; (· exact aR); (· exact h4); (· exact aE))
    | refine nx ?_
    | refine X.cdT ?_
    | refine X.cdF ?_
    | (refine WP.condBit rfl ?_ ?_)
    | (refine WP.cond rfl ?_ ?_ <;> intro hcond)
    | refine X.gst ?_ | refine X.gld ?_ | refine X.new ?_ | refine X.app ?_ | refine X.appS ?_ | refine X.stoW ?_ | refine X.stoB ?_ | refine X.stoR ?_ | refine X.gand ?_ | refine X.gor ?_
    | refine nd ?_
    | ((with_reducible apply drwK.mk); (· kernel_rfl); (· exact aF))
    | fail)
  refine .ofL (s' := ⟨[(6, .osl 7)], [(7, .row 54 5 (l.length - 1) (((l.eraseIdx i).flatMap encPo).map .fv))]⟩) (.inl rfl) ?_ rfl rfl ⟨⟨_, rfl, fun _ _ _ _ h => h⟩, trivial⟩
  refine St.to [(7, .cut 1000 (i + (l.length - (i + 1))))] [] rfl rfl ⟨⟨_, rfl, .cut rfl⟩, trivial⟩ ⟨?_, trivial⟩
  exact .cut rfl rfl (by omega) (by omega) h5 (.maps rfl)
theorem deleteAc_T (l : List Ac) (i : Nat) (j : Int) (hj : j = ((i + 1 : Nat) : Int)) (hi : i < l.length) (hl : l.length * 72 ≤ 140737488355328) : FunO Try.prog 66 [.osl 1000, .fv (.int .i64 (i : Int)), .fv (.int .i64 j)] [(1000, .row 56 9 l.length ((l.flatMap encAc).map .fv))] (.osl 7) [(7, .row 56 9 (l.length - 1) (((l.eraseIdx i).flatMap encAc).map .fv))] := by
  subst hj
  obtain ⟨cs1, h1, h2, h3⟩ := del_cells encAc_len l i hi
  have hclr : ∀ zs : List AV, zs.length = 9 → ∃ cs2, setC cs1 ((0 + (i + (l.length - (i + 1)))) * 9) ((List.replicate (l.length - (i + (l.length - (i + 1)))) zs).flatten) = some cs2 ∧ cs2.take ((i + (l.length - (i + 1))) * 9) = (((l.eraseIdx i).flatMap encAc).map AV.fv) := fun zs hz => by
    have h6 := setC_mk (cs := cs1) (off := (0 + (i + (l.length - (i + 1)))) * 9) (us := (List.replicate (l.length - (i + (l.length - (i + 1)))) zs).flatten) (by
      rw [h2, List.length_flatten, List.map_replicate, List.sum_replicate_nat, hz]
      omega)
    refine ⟨_, h6, ?_⟩
    have := clr_cells h6
    rw [Nat.zero_add] at this
    rw [← h3, ← this, Nat.zero_add]
  obtain ⟨cs2, h4, h5⟩ := hclr [zi, zi, zb, zi, zi, zi, zi, zi, zb] rfl
  generalize hcs : (l.flatMap encAc).map AV.fv = cs at h1
  have hones : onesB cs = true := by subst hcs; exact onesB_map _
  refine FunO.bodyL tbl_ok Try.func66 rfl (by kernel_rfl) rfl rfl rfl ?_
  repeat' (first
    | refine X.loc ?_
    | (refine X.sl3 ?_)
    | (apply X.appB; (· exact aR); (· exact hones); (· omega); (· exact h1); (· exact aE))
    | (apply X.clr; (· exact aR); (· exact h4); (· exact aE))
    | refine nx ?_
    | refine X.cdT ?_
    | refine X.cdF ?_
    | (refine WP.condBit rfl ?_ ?_)
    | (refine WP.cond rfl ?_ ?_ <;> intro hcond)
    | refine X.gst ?_ | refine X.gld ?_ | refine X.new ?_ | refine X.app ?_ | refine X.appS ?_ | refine X.stoW ?_ | refine X.stoB ?_ | refine X.stoR ?_ | refine X.gand ?_ | refine X.gor ?_
    | refine nd ?_
    | ((with_reducible apply drwK.mk); (· kernel_rfl); (· exact aF))
    | fail)
  refine .ofL (s' := ⟨[(6, .osl 7)], [(7, .row 56 9 (l.length - 1) (((l.eraseIdx i).flatMap encAc).map .fv))]⟩) (.inl rfl) ?_ rfl rfl ⟨⟨_, rfl, fun _ _ _ _ h => h⟩, trivial⟩
  refine St.to [(7, .cut 1000 (i + (l.length - (i + 1))))] [] rfl rfl ⟨⟨_, rfl, .cut rfl⟩, trivial⟩ ⟨?_, trivial⟩
  exact .cut rfl rfl (by omega) (by omega) h5 (.maps rfl)
end Go.Proofs.Ytdbbmjdeeenlhaa

/- Frames: what is wrong with one, by the logic of memory. -/
namespace Go.Proofs.Ytdbbmjdeeenlhaa
open Go.RowKit
set_option maxRecDepth 100000

theorem size_nil (s : ByteArray) : (!(s.toList == (⟨#[]⟩ : ByteArray).toList)) = decide (s.size ≠ 0) := by
  have h1 : (⟨#[]⟩ : ByteArray).toList = [] := by rw [ByteArray.toList_eq]
  have h2 := toList_isEmpty s
  rw [h1]
  cases h : s.toList with
  | nil => rw [h] at h2; simp at h2; simp [h2]
  | cons a l => rw [h] at h2; simp at h2; simp [h2]
theorem frameFault_b (f : Fr) : frameFault f = if (decide (f.kind < 1) || decide (f.kind > 3)) = true then 3
    else if (!word f.dst || !word f.src || !word f.ipSrc || !word f.ipDst || !word f.port || decide (f.ttl < 0) || decide (f.ttl > 255)) = true then 2
    else if decide ((f.body.size : Int) > 40) = true then 1
    else if (f.kind != 3 && (f.ttl != 0 || f.port != 0 || !f.body.toList == (⟨#[]⟩ : ByteArray).toList)) = true then 4 else 0 := by
  unfold frameFault
  rw [size_nil]
  have e1 : (f.kind < 1 ∨ 3 < f.kind) = ((decide (f.kind < 1) || decide (f.kind > 3)) = true) := by simp
  have e2 : (word f.dst = false ∨ word f.src = false ∨ word f.ipSrc = false ∨ word f.ipDst = false ∨ word f.port = false ∨ f.ttl < 0 ∨ 255 < f.ttl) = ((!word f.dst || !word f.src || !word f.ipSrc || !word f.ipDst || !word f.port || decide (f.ttl < 0) || decide (f.ttl > 255)) = true) := by simp [or_assoc]
  have e3 : (40 < f.body.size) = (decide ((f.body.size : Int) > 40) = true) := by simp; omega
  have e4 : (f.kind ≠ 3 ∧ (f.ttl ≠ 0 ∨ f.port ≠ 0 ∨ f.body.size ≠ 0)) = ((f.kind != 3 && (f.ttl != 0 || f.port != 0 || decide (f.body.size ≠ 0))) = true) := by simp [or_assoc]
  simp only [e1, e2, e3, e4]
set_option maxHeartbeats 2000000 in
theorem wireCheck_T (f : Fr) : Fun Try.prog 84 [.agg ((encFr f).map .fv)] (.fv (.int .i64 (frameFault f))) := by
  have hb := frameFault_b f
  refine Fun.body tbl_ok Try.func84 rfl (by kernel_rfl) rfl rfl rfl ?_
  repeat' (first
    | (apply X.loE; (· exact aR); (· first | exact .callL rfl rfl rfl (wword_T _) rfl | (apply LEff.callBL; (· rfl); (· rfl); (· exact wword_T _); (· exact aB); (· rfl))))
    | refine X.loc ?_
    | refine nx ?_
    | (refine WP.condBit rfl ?_ ?_)
    | (refine WP.cond rfl ?_ ?_ <;> intro hcond)
    | (apply X.gsE; (· exact aR); (· exact aV); (· exact aW); (· intro hc; first | exact .callG rfl rfl rfl (wword_T _) rfl | (apply LEff.callBG; (· rfl); (· rfl); (· exact wword_T _); (· exact aB); (· rfl))); (· exact aR))
    | refine X.gst ?_ | refine X.gld ?_ | refine X.new ?_ | refine X.app ?_ | refine X.appS ?_ | refine X.stoW ?_ | refine X.stoB ?_ | refine X.stoR ?_ | refine X.gand ?_ | refine X.gor ?_
    | refine nd ?_
    | ((with_reducible apply drwK.mk); (· kernel_rfl); (· exact aF))
    | fail)
  all_goals
    refine .f1 (.inl rfl) rfl ?_
    rw [hb]
    simp only [*]
    rfl
def l5 (f : Fr) : Nat → Int
  | 0 => f.dst
  | 1 => f.src
  | 2 => f.ipSrc
  | 3 => f.ipDst
  | _ => f.port
theorem read5 {f : Fr} {k : Nat} (h : k < 5) : readA tbl 3 ((k : Int).toNat * 1) [.fv (.int .i64 f.dst), .fv (.int .i64 f.src), .fv (.int .i64 f.ipSrc), .fv (.int .i64 f.ipDst), .fv (.int .i64 f.port)] = some (.fv (.int .i64 (l5 f k))) := by
  rw [Int.toNat_natCast]
  match k, h with
  | 0, _ | 1, _ | 2, _ | 3, _ | 4, _ => rfl
  | k + 5, h => omega
def w5 (f : Fr) (k : Nat) : Bool := ([f.dst, f.src, f.ipSrc, f.ipDst, f.port].drop k).all word
theorem w5_at {f : Fr} {k : Nat} (h : k < 5) : w5 f k = (word (l5 f k) && w5 f (k + 1)) := by
  match k, h with
  | 0, _ | 1, _ | 2, _ | 3, _ | 4, _ => rfl
  | k + 5, h => omega
theorem frameFault_r (f : Fr) : frameFault f = if (!inR f.kind 1 3) = true then 3 else if w5 f 0 = false then 2 else if (!inR f.ttl 0 255) = true then 2 else if decide ((f.body.size : Int) > 40) = true then 1
    else if (f.kind != 3 && (decide (f.ttl > 0) || decide (f.port > 0) || decide ((f.body.size : Int) > 0))) = true then 4 else 0 := by
  have hw : w5 f 0 = (word f.dst && (word f.src && (word f.ipSrc && (word f.ipDst && (word f.port && true))))) := rfl
  unfold frameFault
  by_cases h1 : f.kind < 1 ∨ 3 < f.kind
  · have : inR f.kind 1 3 = false := inR_not.2 (by omega)
    rw [if_pos h1, this]
    rfl
  have h1' : inR f.kind 1 3 = true := inR_iff.2 (by omega)
  rw [if_neg h1, if_neg (show ¬ ((!inR f.kind 1 3) = true) by rw [h1']; simp)]
  by_cases h2 : w5 f 0 = false
  · have hL : word f.dst = false ∨ word f.src = false ∨ word f.ipSrc = false ∨ word f.ipDst = false ∨ word f.port = false ∨ f.ttl < 0 ∨ 255 < f.ttl := by
      rw [hw] at h2
      cases e1 : word f.dst
      · exact .inl rfl
      cases e2 : word f.src
      · exact .inr (.inl rfl)
      cases e3 : word f.ipSrc
      · exact .inr (.inr (.inl rfl))
      cases e4 : word f.ipDst
      · exact .inr (.inr (.inr (.inl rfl)))
      cases e5 : word f.port
      · exact .inr (.inr (.inr (.inr (.inl rfl))))
      rw [e1, e2, e3, e4, e5] at h2
      cases h2
    rw [if_pos hL, if_pos h2]
  have h2' : w5 f 0 = true := by simpa using h2
  rw [hw] at h2'
  simp only [Bool.and_eq_true] at h2'
  obtain ⟨a1, a2, a3, a4, a5, _⟩ := h2'
  rw [if_neg h2]
  by_cases h3 : f.ttl < 0 ∨ 255 < f.ttl
  · have : inR f.ttl 0 255 = false := inR_not.2 (by omega)
    rw [if_pos (show word f.dst = false ∨ word f.src = false ∨ word f.ipSrc = false ∨ word f.ipDst = false ∨ word f.port = false ∨ f.ttl < 0 ∨ 255 < f.ttl by rcases h3 with h | h <;> simp [h]), if_pos (show (!inR f.ttl 0 255) = true by rw [this]; rfl)]
  have h3' : inR f.ttl 0 255 = true := inR_iff.2 (by omega)
  rw [if_neg (show ¬ (word f.dst = false ∨ word f.src = false ∨ word f.ipSrc = false ∨ word f.ipDst = false ∨ word f.port = false ∨ f.ttl < 0 ∨ 255 < f.ttl) by rw [a1, a2, a3, a4, a5]; simp; omega), if_neg (show ¬ ((!inR f.ttl 0 255) = true) by rw [h3']; simp)]
  have hp := word_iff.1 a5
  have e3 : (40 < f.body.size) = (decide ((f.body.size : Int) > 40) = true) := by simp; omega
  have e4 : (f.kind ≠ 3 ∧ (f.ttl ≠ 0 ∨ f.port ≠ 0 ∨ f.body.size ≠ 0)) = ((f.kind != 3 && (decide (f.ttl > 0) || decide (f.port > 0) || decide ((f.body.size : Int) > 0))) = true) := by
    simp only [Bool.and_eq_true, Bool.or_eq_true, bne_iff_ne, ne_eq, decide_eq_true_eq, eq_iff_iff]
    omega
  simp only [e3, e4]
set_option maxHeartbeats 2000000 in
theorem frameFault_T (f : Fr) : Fun Try.prog 53 [.agg ((encFr f).map .fv)] (.fv (.int .i64 (frameFault f))) := by
  have hb := frameFault_r f
  refine Fun.body tbl_ok Try.func53 rfl (by kernel_rfl) rfl rfl rfl ?_
  repeat' (first
    | (apply X.loE; (· exact aR); (· first | exact .callL rfl rfl rfl (in_T _ _ _) rfl | (apply LEff.callBL; (· rfl); (· rfl); (· exact in_T _ _ _); (· exact aB); (· rfl))))
    | refine X.loc ?_
    | refine nx ?_
    | (refine WP.condBit rfl ?_ ?_)
    | (refine WP.cond rfl ?_ ?_ <;> intro hcond)
    | (apply X.gsE; (· exact aR); (· exact aV); (· exact aW); (· intro hc; first | exact .callG rfl rfl rfl (in_T _ _ _) rfl | (apply LEff.callBG; (· rfl); (· rfl); (· exact in_T _ _ _); (· exact aB); (· rfl))); (· exact aR))
    | refine X.gst ?_ | refine X.gld ?_ | refine X.new ?_ | refine X.app ?_ | refine X.appS ?_ | refine X.stoW ?_ | refine X.stoB ?_ | refine X.stoR ?_ | refine X.gand ?_ | refine X.gor ?_
    | refine nd ?_
    | ((with_reducible apply drwK.mk); (· kernel_rfl); (· exact aF))
    | fail)
  · refine .f1 (.inl rfl) rfl ?_
    rw [hb, if_pos hcond]
  rw [if_neg (by rw [hcond]; simp)] at hb
  clear hcond
  refine WP.loop (ι := Nat) (fun k => ⟨[(1, .optr 1 0), (3, .osl 900), (4, .fv (.int .i64 k))], [(1, .box 58 ((encFr f).map .fv)), (900, .row 3 1 5 [.fv (.int .i64 f.dst), .fv (.int .i64 f.src), .fv (.int .i64 f.ipSrc), .fv (.int .i64 f.ipDst), .fv (.int .i64 f.port)])]⟩) (fun k => k ≤ 5 ∧ w5 f 0 = w5 f k) (fun k => 5 - k) 0 ⟨by omega, rfl⟩ ?_ ?_
  · skip
    refine St.to [(900, .id 19)] [] rfl rfl ?_ ?_ <;> (repeat' (first | exact tA | refine t1 ?_ | exact tB | refine t2 ?_ ?_ | refine t3 ?_ | refine t4 ?_ ?_ | refine .ofEq ?_ | refine OB.To.cut rfl rfl ?_ ?_ ?_ ?_ | refine OB.To.box rfl rfl ?_ | refine ⟨⟨_, rfl, ?_⟩, ?_⟩ | refine ⟨?_, ?_⟩ | fail))
  rintro k ⟨hk, hd⟩
  try dsimp only
  by_cases hlt : k < 5
  case neg =>
    have hek : k = 5 := by omega
    subst hek
    have hw : w5 f 0 = true := hd
    rw [hw, if_neg (by simp)] at hb
    repeat' (first
      | (apply X.loE; (· exact aR); (· first | exact .callL rfl rfl rfl (in_T _ _ _) rfl | (apply LEff.callBL; (· rfl); (· rfl); (· exact in_T _ _ _); (· exact aB); (· rfl))))
      | refine X.loc ?_
      | refine nx ?_
      | (refine WP.condBit rfl ?_ ?_)
      | (refine WP.cond rfl ?_ ?_ <;> intro hcond)
      | (apply X.gsE; (· exact aR); (· exact aV); (· exact aW); (· intro hc; first | exact .callG rfl rfl rfl (in_T _ _ _) rfl | (apply LEff.callBG; (· rfl); (· rfl); (· exact in_T _ _ _); (· exact aB); (· rfl))); (· exact aR))
      | refine X.gst ?_ | refine X.gld ?_ | refine X.new ?_ | refine X.app ?_ | refine X.appS ?_ | refine X.stoW ?_ | refine X.stoB ?_ | refine X.stoR ?_ | refine X.gand ?_ | refine X.gor ?_
      | refine nd ?_
      | ((with_reducible apply drwK.mk); (· kernel_rfl); (· exact aF))
      | fail)
    all_goals
      refine .f1 (.inl rfl) rfl ?_
      rw [hb]
      simp only [*]
      rfl
  case pos =>
    have hat := w5_at (f := f) hlt
    repeat' (first
      | (apply X.loE; (· exact aR); (· first | (exact .eff (.loadO rfl rfl (read5 hlt))) | exact .callL rfl rfl rfl (in_T _ _ _) rfl | (apply LEff.callBL; (· rfl); (· rfl); (· exact in_T _ _ _); (· exact aB); (· rfl))))
      | refine X.loc ?_
      | refine nx ?_
      | refine X.cdT ?_
      | refine X.cdF ?_
      | (refine WP.condBit rfl ?_ ?_)
      | (refine WP.cond rfl ?_ ?_ <;> intro hcond)
      | (apply X.gsE; (· exact aR); (· exact aV); (· exact aW); (· intro hc; first | (exact .eff (.loadO rfl rfl (read5 hlt))) | exact .callG rfl rfl rfl (in_T _ _ _) rfl | (apply LEff.callBG; (· rfl); (· rfl); (· exact in_T _ _ _); (· exact aB); (· rfl))); (· exact aR))
      | refine X.gst ?_ | refine X.gld ?_ | refine X.new ?_ | refine X.app ?_ | refine X.appS ?_ | refine X.stoW ?_ | refine X.stoB ?_ | refine X.stoR ?_ | refine X.gand ?_ | refine X.gor ?_
      | refine nd ?_
      | ((with_reducible apply drwK.mk); (· kernel_rfl); (· exact aF))
      | fail)
    · refine .f1 (.inl rfl) rfl ?_
      have : w5 f 0 = false := by rw [hd, hat]; simp at hcond; rw [show word (l5 f k) = false from hcond]; rfl
      rw [hb, if_pos this]
    · refine ⟨k + 1, ⟨by omega, ?_⟩, by omega, ?_⟩
      · simp at hcond
        rw [hd, hat, show word (l5 f k) = true from hcond]
        rfl
      · skip
        refine St.to [] [] rfl rfl ?_ ?_ <;> (repeat' (first | exact tA | refine t1 ?_ | exact tB | refine t2 ?_ ?_ | refine t3 ?_ | refine t4 ?_ ?_ | refine .ofEq ?_ | refine OB.To.cut rfl rfl ?_ ?_ ?_ ?_ | refine OB.To.box rfl rfl ?_ | refine ⟨⟨_, rfl, ?_⟩, ?_⟩ | refine ⟨?_, ?_⟩ | fail))
end Go.Proofs.Ytdbbmjdeeenlhaa

/- An act that changes what is wanted: the program's answer. -/
namespace Go.Proofs.Ytdbbmjdeeenlhaa
open Go.RowKit
set_option maxRecDepth 100000

theorem slOf_len {α : Type} {enc : α → List FV} {l : List α} {n : Nat} (h : n = l.length) : FV.sl (l.flatMap enc) n = slOf enc l := by subst h; rfl
theorem po_modify (l : List Po) (i : Nat) (hi : i < l.length) (m : Int) : setC ((l.flatMap encPo).map AV.fv) ((i : Int).toNat * 5 + 4) [AV.fv (.int .i64 m)] = some (((l.modify i fun p => { p with ch := m }).flatMap encPo).map AV.fv) := by
  rw [Int.toNat_natCast]
  induction l generalizing i with
  | nil => simp at hi
  | cons x l ih =>
    cases i with
    | zero => simp [setC, encPo]
    | succ i =>
      have := ih i (by simpa using hi)
      rw [show (i + 1) * 5 + 4 = (i * 5 + 4) + 5 from by omega]
      simp only [List.flatMap_cons, List.map_append, List.modify_succ_cons]
      show setC (AV.fv (.int .i64 x.id) :: AV.fv (.int .i64 x.sw) :: AV.fv (.int .i64 x.mac) :: AV.fv (.int .i64 x.ip) :: AV.fv (.int .i64 x.ch) :: (l.flatMap encPo).map AV.fv) _ _ = _
      simp only [setC, this]
      rfl
set_option maxHeartbeats 4000000 in
theorem apply_T (c : Cf) (a : De) (hl : c.Fit) : Fun Try.prog 22 [.agg ((encCf c).map .fv), .agg ((encDe a).map .fv)] (.tup [.agg ((encCf (applyR c a)).map .fv), .fv (.int .i64 (applyE c a))]) := by
  have hck := confCheck_T c hl.small
  refine Fun.body tbl_ok Try.func22 rfl (by kernel_rfl) rfl rfl rfl ?_
  cases hm : cfMay c with
  | false =>
    rw [hm] at hck
    repeat' (first
      | (apply X.loE; (· exact aR); (· first | exact .callL rfl rfl rfl (hck) rfl | (apply LEff.callBL; (· rfl); (· rfl); (· exact hck); (· exact aB); (· rfl))))
      | refine X.loc ?_
      | refine nx ?_
      | refine X.cdT ?_
      | refine X.cdF ?_
      | (refine WP.condBit rfl ?_ ?_)
      | (refine WP.cond rfl ?_ ?_ <;> intro hcond)
      | (apply X.gsE; (· exact aR); (· exact aV); (· exact aW); (· intro hc; first | exact .callG rfl rfl rfl (hck) rfl | (apply LEff.callBG; (· rfl); (· rfl); (· exact hck); (· exact aB); (· rfl))); (· exact aR))
      | refine X.gst ?_ | refine X.gld ?_ | refine X.new ?_ | refine X.app ?_ | refine X.appS ?_ | refine X.stoW ?_ | refine X.stoB ?_ | refine X.stoR ?_ | refine X.gand ?_ | refine X.gor ?_
      | refine nd ?_
      | ((with_reducible apply drwK.mk); (· kernel_rfl); (· exact aF))
      | fail)
    refine .le (s' := ⟨[(4, .optr 4 0), (5, .fv (.int .i64 8))], [(4, .box 50 ((encCf cf0).map .fv))]⟩) ?_ (.fun (.inl rfl) rfl ?_)
    · skip
      refine St.to [] [] rfl rfl ?_ ?_ <;> (repeat' (first | exact tA | refine t1 ?_ | exact tB | refine t2 ?_ ?_ | refine t3 ?_ | refine t4 ?_ ?_ | refine .ofEq ?_ | refine OB.To.cut rfl rfl ?_ ?_ ?_ ?_ | refine OB.To.box rfl rfl ?_ | refine ⟨⟨_, rfl, ?_⟩, ?_⟩ | refine ⟨?_, ?_⟩ | fail))
    · rw [applyE_bad hm, applyR_bad (by rw [applyE_bad hm]; decide)]
      rfl
  | true =>
    rw [hm] at hck
    have hlen := cfMay_len hm
    have hcp := copy_T c hl
    have b1 := hlen.ss
    have b2 := hlen.ps
    have b3 := hlen.acs
    have e0 : applyE c a = if a.kind = 1 then swFault c a.sw else if a.kind = 2 then poFault c a.po else if a.kind = 3 then acFault c a.ac else if a.kind = 4 ∨ a.kind = 6 then (if idxB (fun p => p.id == a.n) c.ps < 0 then 6 else if a.kind = 6 ∧ inR a.m (-1) 5 = false then 2 else 0) else if a.kind = 5 then (if a.n < 0 ∨ (c.acs.length : Int) ≤ a.n then 6 else 0) else 3 := by
      rw [applyE, if_neg (by rw [hm]; decide)]
    by_cases k : a.kind = 1
    · rw [if_pos k] at e0
      have c1 := addSwitch_T c a.sw hl.small hlen.wf b1
      generalize swFault c a.sw = e at *
      by_cases he : e = 0
      · subst he
        repeat' (first
          | (apply X.loE; (· exact aR); (· first | exact .callL rfl rfl rfl (by first | exact hck | exact c1) rfl | (apply LEff.callBL; (· rfl); (· rfl); (· exact hck); (· exact aB); (· rfl)) | (apply LEff.callBL; (· rfl); (· rfl); (· exact c1); (· exact aB); (· rfl))))
          | refine X.loc ?_
          | refine nx ?_
          | refine X.cdT ?_
          | refine X.cdF ?_
          | (refine WP.condBit rfl ?_ ?_)
          | (refine WP.cond rfl ?_ ?_ <;> intro hcond)
          | (apply X.gsE; (· exact aR); (· exact aV); (· exact aW); (· intro hc; first | exact .callG rfl rfl rfl (by first | exact hck | exact c1) rfl | (apply LEff.callBG; (· rfl); (· rfl); (· exact hck); (· exact aB); (· rfl)) | (apply LEff.callBG; (· rfl); (· rfl); (· exact c1); (· exact aB); (· rfl))); (· exact aR))
          | refine X.gst ?_ | refine X.gld ?_ | refine X.new ?_ | refine X.app ?_ | refine X.appS ?_ | refine X.stoW ?_ | refine X.stoB ?_ | refine X.stoR ?_ | refine X.gand ?_ | refine X.gor ?_
          | (apply X.cal false; (· exact aR); (· exact hcp); (· exact aC))
          | refine nd ?_
          | ((with_reducible apply drwK.mk); (· kernel_rfl); (· exact aF))
          | fail)
        refine .le (s' := ⟨[(4, .optr 4 0), (5, .fv (.int .i64 0))], [(4, .box 50 ((encCf (applyC c a)).map .fv))]⟩) ?_ (.fun (.inl rfl) rfl ?_)
        · have e5 : applyC c a = { c with ss := c.ss ++ [a.sw] } := by rw [applyC, if_pos k]
          rw [e5]
          refine St.to [] [30, 316, 616] rfl rfl ?_ ?_ <;> (repeat' (first | exact tA | refine t1 ?_ | exact tB | refine t2 ?_ ?_ | refine t3 ?_ | refine t4 ?_ ?_ | refine .ofEq ?_ | refine OB.To.cut rfl rfl ?_ ?_ ?_ ?_ | refine OB.To.box rfl rfl ?_ | refine ⟨⟨_, rfl, ?_⟩, ?_⟩ | refine ⟨?_, ?_⟩ | fail))
          all_goals first | (simp; done) | (rw [List.length_eraseIdx, if_pos (by omega)]; done) | (simp only [List.flatMap_append, List.map_append]; rfl)
        · rw [e0, applyR_ok e0]
          rfl
      · skip
        repeat' (first
          | (apply X.loE; (· exact aR); (· first | exact .callL rfl rfl rfl (by first | exact hck | exact c1) rfl | (apply LEff.callBL; (· rfl); (· rfl); (· exact hck); (· exact aB); (· rfl)) | (apply LEff.callBL; (· rfl); (· rfl); (· exact c1); (· exact aB); (· rfl))))
          | refine X.loc ?_
          | refine nx ?_
          | refine X.cdT ?_
          | refine X.cdF ?_
          | (refine WP.condBit rfl ?_ ?_)
          | (refine WP.cond rfl ?_ ?_ <;> intro hcond)
          | (apply X.gsE; (· exact aR); (· exact aV); (· exact aW); (· intro hc; first | exact .callG rfl rfl rfl (by first | exact hck | exact c1) rfl | (apply LEff.callBG; (· rfl); (· rfl); (· exact hck); (· exact aB); (· rfl)) | (apply LEff.callBG; (· rfl); (· rfl); (· exact c1); (· exact aB); (· rfl))); (· exact aR))
          | refine X.gst ?_ | refine X.gld ?_ | refine X.new ?_ | refine X.app ?_ | refine X.appS ?_ | refine X.stoW ?_ | refine X.stoB ?_ | refine X.stoR ?_ | refine X.gand ?_ | refine X.gor ?_
          | (apply X.cal false; (· exact aR); (· exact hcp); (· exact aC))
          | refine nd ?_
          | ((with_reducible apply drwK.mk); (· kernel_rfl); (· exact aF))
          | fail)
        refine .le (s' := ⟨[(4, .optr 4 0), (5, .fv (.int .i64 e))], [(4, .box 50 ((encCf cf0).map .fv))]⟩) ?_ (.fun (.inl rfl) rfl ?_)
        · skip
          refine St.to [] [] rfl rfl ?_ ?_ <;> (repeat' (first | exact tA | refine t1 ?_ | exact tB | refine t2 ?_ ?_ | refine t3 ?_ | refine t4 ?_ ?_ | refine .ofEq ?_ | refine OB.To.cut rfl rfl ?_ ?_ ?_ ?_ | refine OB.To.box rfl rfl ?_ | refine ⟨⟨_, rfl, ?_⟩, ?_⟩ | refine ⟨?_, ?_⟩ | fail))
        · rw [applyR_bad (by rw [e0]; first | exact he | decide), e0]
          rfl
    have k1 := k
    clear k
    rw [if_neg k1] at e0
    by_cases k : a.kind = 2
    · rw [if_pos k] at e0
      have c1 := addPort_T c a.po hl.small hlen.wf b2
      generalize poFault c a.po = e at *
      by_cases he : e = 0
      · subst he
        repeat' (first
          | (apply X.loE; (· exact aR); (· first | exact .callL rfl rfl rfl (by first | exact hck | exact c1) rfl | (apply LEff.callBL; (· rfl); (· rfl); (· exact hck); (· exact aB); (· rfl)) | (apply LEff.callBL; (· rfl); (· rfl); (· exact c1); (· exact aB); (· rfl))))
          | refine X.loc ?_
          | refine nx ?_
          | refine X.cdT ?_
          | refine X.cdF ?_
          | (refine WP.condBit rfl ?_ ?_)
          | (refine WP.cond rfl ?_ ?_ <;> intro hcond)
          | (apply X.gsE; (· exact aR); (· exact aV); (· exact aW); (· intro hc; first | exact .callG rfl rfl rfl (by first | exact hck | exact c1) rfl | (apply LEff.callBG; (· rfl); (· rfl); (· exact hck); (· exact aB); (· rfl)) | (apply LEff.callBG; (· rfl); (· rfl); (· exact c1); (· exact aB); (· rfl))); (· exact aR))
          | refine X.gst ?_ | refine X.gld ?_ | refine X.new ?_ | refine X.app ?_ | refine X.appS ?_ | refine X.stoW ?_ | refine X.stoB ?_ | refine X.stoR ?_ | refine X.gand ?_ | refine X.gor ?_
          | (apply X.cal false; (· exact aR); (· exact hcp); (· exact aC))
          | refine nd ?_
          | ((with_reducible apply drwK.mk); (· kernel_rfl); (· exact aF))
          | fail)
        refine .le (s' := ⟨[(4, .optr 4 0), (5, .fv (.int .i64 0))], [(4, .box 50 ((encCf (applyC c a)).map .fv))]⟩) ?_ (.fun (.inl rfl) rfl ?_)
        · have e5 : applyC c a = { c with ps := c.ps ++ [a.po] } := by rw [applyC, if_neg (by rw [k]; decide), if_pos k]
          rw [e5]
          refine St.to [] [16, 43, 616] rfl rfl ?_ ?_ <;> (repeat' (first | exact tA | refine t1 ?_ | exact tB | refine t2 ?_ ?_ | refine t3 ?_ | refine t4 ?_ ?_ | refine .ofEq ?_ | refine OB.To.cut rfl rfl ?_ ?_ ?_ ?_ | refine OB.To.box rfl rfl ?_ | refine ⟨⟨_, rfl, ?_⟩, ?_⟩ | refine ⟨?_, ?_⟩ | fail))
          all_goals first | (simp; done) | (rw [List.length_eraseIdx, if_pos (by omega)]; done) | (simp only [List.flatMap_append, List.map_append]; rfl)
        · rw [e0, applyR_ok e0]
          rfl
      · skip
        repeat' (first
          | (apply X.loE; (· exact aR); (· first | exact .callL rfl rfl rfl (by first | exact hck | exact c1) rfl | (apply LEff.callBL; (· rfl); (· rfl); (· exact hck); (· exact aB); (· rfl)) | (apply LEff.callBL; (· rfl); (· rfl); (· exact c1); (· exact aB); (· rfl))))
          | refine X.loc ?_
          | refine nx ?_
          | refine X.cdT ?_
          | refine X.cdF ?_
          | (refine WP.condBit rfl ?_ ?_)
          | (refine WP.cond rfl ?_ ?_ <;> intro hcond)
          | (apply X.gsE; (· exact aR); (· exact aV); (· exact aW); (· intro hc; first | exact .callG rfl rfl rfl (by first | exact hck | exact c1) rfl | (apply LEff.callBG; (· rfl); (· rfl); (· exact hck); (· exact aB); (· rfl)) | (apply LEff.callBG; (· rfl); (· rfl); (· exact c1); (· exact aB); (· rfl))); (· exact aR))
          | refine X.gst ?_ | refine X.gld ?_ | refine X.new ?_ | refine X.app ?_ | refine X.appS ?_ | refine X.stoW ?_ | refine X.stoB ?_ | refine X.stoR ?_ | refine X.gand ?_ | refine X.gor ?_
          | (apply X.cal false; (· exact aR); (· exact hcp); (· exact aC))
          | refine nd ?_
          | ((with_reducible apply drwK.mk); (· kernel_rfl); (· exact aF))
          | fail)
        refine .le (s' := ⟨[(4, .optr 4 0), (5, .fv (.int .i64 e))], [(4, .box 50 ((encCf cf0).map .fv))]⟩) ?_ (.fun (.inl rfl) rfl ?_)
        · skip
          refine St.to [] [] rfl rfl ?_ ?_ <;> (repeat' (first | exact tA | refine t1 ?_ | exact tB | refine t2 ?_ ?_ | refine t3 ?_ | refine t4 ?_ ?_ | refine .ofEq ?_ | refine OB.To.cut rfl rfl ?_ ?_ ?_ ?_ | refine OB.To.box rfl rfl ?_ | refine ⟨⟨_, rfl, ?_⟩, ?_⟩ | refine ⟨?_, ?_⟩ | fail))
        · rw [applyR_bad (by rw [e0]; first | exact he | decide), e0]
          rfl
    have k2 := k
    clear k
    rw [if_neg k2] at e0
    by_cases k : a.kind = 3
    · rw [if_pos k] at e0
      have c1 := addAcl_T c a.ac hl.small b3
      generalize acFault c a.ac = e at *
      by_cases he : e = 0
      · subst he
        repeat' (first
          | (apply X.loE; (· exact aR); (· first | exact .callL rfl rfl rfl (by first | exact hck | exact c1) rfl | (apply LEff.callBL; (· rfl); (· rfl); (· exact hck); (· exact aB); (· rfl)) | (apply LEff.callBL; (· rfl); (· rfl); (· exact c1); (· exact aB); (· rfl))))
          | refine X.loc ?_
          | refine nx ?_
          | refine X.cdT ?_
          | refine X.cdF ?_
          | (refine WP.condBit rfl ?_ ?_)
          | (refine WP.cond rfl ?_ ?_ <;> intro hcond)
          | (apply X.gsE; (· exact aR); (· exact aV); (· exact aW); (· intro hc; first | exact .callG rfl rfl rfl (by first | exact hck | exact c1) rfl | (apply LEff.callBG; (· rfl); (· rfl); (· exact hck); (· exact aB); (· rfl)) | (apply LEff.callBG; (· rfl); (· rfl); (· exact c1); (· exact aB); (· rfl))); (· exact aR))
          | refine X.gst ?_ | refine X.gld ?_ | refine X.new ?_ | refine X.app ?_ | refine X.appS ?_ | refine X.stoW ?_ | refine X.stoB ?_ | refine X.stoR ?_ | refine X.gand ?_ | refine X.gor ?_
          | (apply X.cal false; (· exact aR); (· exact hcp); (· exact aC))
          | refine nd ?_
          | ((with_reducible apply drwK.mk); (· kernel_rfl); (· exact aF))
          | fail)
        refine .le (s' := ⟨[(4, .optr 4 0), (5, .fv (.int .i64 0))], [(4, .box 50 ((encCf (applyC c a)).map .fv))]⟩) ?_ (.fun (.inl rfl) rfl ?_)
        · have e5 : applyC c a = { c with acs := c.acs ++ [a.ac] } := by rw [applyC, if_neg (by rw [k]; decide), if_neg (by rw [k]; decide), if_pos k]
          rw [e5]
          refine St.to [] [16, 316, 56] rfl rfl ?_ ?_ <;> (repeat' (first | exact tA | refine t1 ?_ | exact tB | refine t2 ?_ ?_ | refine t3 ?_ | refine t4 ?_ ?_ | refine .ofEq ?_ | refine OB.To.cut rfl rfl ?_ ?_ ?_ ?_ | refine OB.To.box rfl rfl ?_ | refine ⟨⟨_, rfl, ?_⟩, ?_⟩ | refine ⟨?_, ?_⟩ | fail))
          all_goals first | (simp; done) | (rw [List.length_eraseIdx, if_pos (by omega)]; done) | (simp only [List.flatMap_append, List.map_append]; rfl)
        · rw [e0, applyR_ok e0]
          rfl
      · skip
        repeat' (first
          | (apply X.loE; (· exact aR); (· first | exact .callL rfl rfl rfl (by first | exact hck | exact c1) rfl | (apply LEff.callBL; (· rfl); (· rfl); (· exact hck); (· exact aB); (· rfl)) | (apply LEff.callBL; (· rfl); (· rfl); (· exact c1); (· exact aB); (· rfl))))
          | refine X.loc ?_
          | refine nx ?_
          | refine X.cdT ?_
          | refine X.cdF ?_
          | (refine WP.condBit rfl ?_ ?_)
          | (refine WP.cond rfl ?_ ?_ <;> intro hcond)
          | (apply X.gsE; (· exact aR); (· exact aV); (· exact aW); (· intro hc; first | exact .callG rfl rfl rfl (by first | exact hck | exact c1) rfl | (apply LEff.callBG; (· rfl); (· rfl); (· exact hck); (· exact aB); (· rfl)) | (apply LEff.callBG; (· rfl); (· rfl); (· exact c1); (· exact aB); (· rfl))); (· exact aR))
          | refine X.gst ?_ | refine X.gld ?_ | refine X.new ?_ | refine X.app ?_ | refine X.appS ?_ | refine X.stoW ?_ | refine X.stoB ?_ | refine X.stoR ?_ | refine X.gand ?_ | refine X.gor ?_
          | (apply X.cal false; (· exact aR); (· exact hcp); (· exact aC))
          | refine nd ?_
          | ((with_reducible apply drwK.mk); (· kernel_rfl); (· exact aF))
          | fail)
        refine .le (s' := ⟨[(4, .optr 4 0), (5, .fv (.int .i64 e))], [(4, .box 50 ((encCf cf0).map .fv))]⟩) ?_ (.fun (.inl rfl) rfl ?_)
        · skip
          refine St.to [] [] rfl rfl ?_ ?_ <;> (repeat' (first | exact tA | refine t1 ?_ | exact tB | refine t2 ?_ ?_ | refine t3 ?_ | refine t4 ?_ ?_ | refine .ofEq ?_ | refine OB.To.cut rfl rfl ?_ ?_ ?_ ?_ | refine OB.To.box rfl rfl ?_ | refine ⟨⟨_, rfl, ?_⟩, ?_⟩ | refine ⟨?_, ?_⟩ | fail))
        · rw [applyR_bad (by rw [e0]; first | exact he | decide), e0]
          rfl
    have k3 := k
    clear k
    rw [if_neg k3] at e0
    by_cases k46 : a.kind = 4 ∨ a.kind = 6
    · rw [if_pos k46] at e0
      have c1 := port_T c a.n hl.small.2.1
      have hge := idxB_ge (fun p : Po => p.id == a.n) c.ps
      have hgen : ∃ x, x = idxB (fun p : Po => p.id == a.n) c.ps := ⟨_, rfl⟩
      obtain ⟨x, hx⟩ := hgen
      by_cases h0 : x < 0
      · rw [← hx, if_pos h0] at e0
        rw [← hx] at c1
        rcases k46 with k | k
        · skip
          repeat' (first
            | (apply X.loE; (· exact aR); (· first | exact .callL rfl rfl rfl (by first | exact hck | exact c1) rfl | (apply LEff.callBL; (· rfl); (· rfl); (· exact hck); (· exact aB); (· rfl)) | (apply LEff.callBL; (· rfl); (· rfl); (· exact c1); (· exact aB); (· rfl))))
            | refine X.loc ?_
            | refine nx ?_
            | refine X.cdT ?_
            | refine X.cdF ?_
            | (refine WP.condBit rfl ?_ ?_)
            | (refine WP.cond rfl ?_ ?_ <;> intro hcond)
            | (apply X.gsE; (· exact aR); (· exact aV); (· exact aW); (· intro hc; first | exact .callG rfl rfl rfl (by first | exact hck | exact c1) rfl | (apply LEff.callBG; (· rfl); (· rfl); (· exact hck); (· exact aB); (· rfl)) | (apply LEff.callBG; (· rfl); (· rfl); (· exact c1); (· exact aB); (· rfl))); (· exact aR))
            | refine X.gst ?_ | refine X.gld ?_ | refine X.new ?_ | refine X.app ?_ | refine X.appS ?_ | refine X.stoW ?_ | refine X.stoB ?_ | refine X.stoR ?_ | refine X.gand ?_ | refine X.gor ?_
            | (apply X.cal false; (· exact aR); (· exact hcp); (· exact aC))
            | refine nd ?_
            | ((with_reducible apply drwK.mk); (· kernel_rfl); (· exact aF))
            | fail)
          refine .le (s' := ⟨[(4, .optr 4 0), (5, .fv (.int .i64 6))], [(4, .box 50 ((encCf cf0).map .fv))]⟩) ?_ (.fun (.inl rfl) rfl ?_)
          · skip
            refine St.to [] [] rfl rfl ?_ ?_ <;> (repeat' (first | exact tA | refine t1 ?_ | exact tB | refine t2 ?_ ?_ | refine t3 ?_ | refine t4 ?_ ?_ | refine .ofEq ?_ | refine OB.To.cut rfl rfl ?_ ?_ ?_ ?_ | refine OB.To.box rfl rfl ?_ | refine ⟨⟨_, rfl, ?_⟩, ?_⟩ | refine ⟨?_, ?_⟩ | fail))
          · rw [applyR_bad (by rw [e0]; first | exact he | decide), e0]
            rfl
        · skip
          repeat' (first
            | (apply X.loE; (· exact aR); (· first | exact .callL rfl rfl rfl (by first | exact hck | exact c1) rfl | (apply LEff.callBL; (· rfl); (· rfl); (· exact hck); (· exact aB); (· rfl)) | (apply LEff.callBL; (· rfl); (· rfl); (· exact c1); (· exact aB); (· rfl))))
            | refine X.loc ?_
            | refine nx ?_
            | refine X.cdT ?_
            | refine X.cdF ?_
            | (refine WP.condBit rfl ?_ ?_)
            | (refine WP.cond rfl ?_ ?_ <;> intro hcond)
            | (apply X.gsE; (· exact aR); (· exact aV); (· exact aW); (· intro hc; first | exact .callG rfl rfl rfl (by first | exact hck | exact c1) rfl | (apply LEff.callBG; (· rfl); (· rfl); (· exact hck); (· exact aB); (· rfl)) | (apply LEff.callBG; (· rfl); (· rfl); (· exact c1); (· exact aB); (· rfl))); (· exact aR))
            | refine X.gst ?_ | refine X.gld ?_ | refine X.new ?_ | refine X.app ?_ | refine X.appS ?_ | refine X.stoW ?_ | refine X.stoB ?_ | refine X.stoR ?_ | refine X.gand ?_ | refine X.gor ?_
            | (apply X.cal false; (· exact aR); (· exact hcp); (· exact aC))
            | refine nd ?_
            | ((with_reducible apply drwK.mk); (· kernel_rfl); (· exact aF))
            | fail)
          refine .le (s' := ⟨[(4, .optr 4 0), (5, .fv (.int .i64 6))], [(4, .box 50 ((encCf cf0).map .fv))]⟩) ?_ (.fun (.inl rfl) rfl ?_)
          · skip
            refine St.to [] [] rfl rfl ?_ ?_ <;> (repeat' (first | exact tA | refine t1 ?_ | exact tB | refine t2 ?_ ?_ | refine t3 ?_ | refine t4 ?_ ?_ | refine .ofEq ?_ | refine OB.To.cut rfl rfl ?_ ?_ ?_ ?_ | refine OB.To.box rfl rfl ?_ | refine ⟨⟨_, rfl, ?_⟩, ?_⟩ | refine ⟨?_, ?_⟩ | fail))
          · rw [applyR_bad (by rw [e0]; first | exact he | decide), e0]
            rfl
      · obtain ⟨i, rfl⟩ : ∃ i : Nat, x = i := ⟨x.toNat, by omega⟩
        rw [← hx, if_neg h0] at e0
        rw [← hx] at c1 hge
        have hi : i < c.ps.length := by omega
        rcases k46 with k | k
        · rw [if_neg (by rw [k]; simp)] at e0
          have c2 := deletePo_T c.ps i ((i : Int) + 1) (by omega) hi hl.2.1
          repeat' (first
            | (apply X.loE; (· exact aR); (· first | exact .callL rfl rfl rfl (by first | exact hck | exact c1) rfl | (apply LEff.callBL; (· rfl); (· rfl); (· exact hck); (· exact aB); (· rfl)) | (apply LEff.callBL; (· rfl); (· rfl); (· exact c1); (· exact aB); (· rfl))))
            | refine X.loc ?_
            | refine nx ?_
            | refine X.cdT ?_
            | refine X.cdF ?_
            | (refine WP.condBit rfl ?_ ?_)
            | (refine WP.cond rfl ?_ ?_ <;> intro hcond)
            | (apply X.gsE; (· exact aR); (· exact aV); (· exact aW); (· intro hc; first | exact .callG rfl rfl rfl (by first | exact hck | exact c1) rfl | (apply LEff.callBG; (· rfl); (· rfl); (· exact hck); (· exact aB); (· rfl)) | (apply LEff.callBG; (· rfl); (· rfl); (· exact c1); (· exact aB); (· rfl))); (· exact aR))
            | refine X.gst ?_ | refine X.gld ?_ | refine X.new ?_ | refine X.app ?_ | refine X.appS ?_ | refine X.stoW ?_ | refine X.stoB ?_ | refine X.stoR ?_ | refine X.gand ?_ | refine X.gor ?_
            | (apply X.cal false; (· exact aR); (· exact hcp); (· exact aC))
            | (apply X.cal false; (· exact aR); (· exact c2); (· exact aC))
            | refine nd ?_
            | ((with_reducible apply drwK.mk); (· kernel_rfl); (· exact aF))
            | fail)
          refine .le (s' := ⟨[(4, .optr 4 0), (5, .fv (.int .i64 0))], [(4, .box 50 ((encCf (applyC c a)).map .fv))]⟩) ?_ (.fun (.inl rfl) rfl ?_)
          · have e5 : applyC c a = { c with ps := c.ps.eraseIdx i } := by rw [applyC, if_neg (by rw [k]; decide), if_neg (by rw [k]; decide), if_neg (by rw [k]; decide), if_pos k, ← hx, Int.toNat_natCast]
            rw [e5]
            refine St.to [] [16, 84, 616] rfl rfl ?_ ?_ <;> (repeat' (first | exact tA | refine t1 ?_ | exact tB | refine t2 ?_ ?_ | refine t3 ?_ | refine t4 ?_ ?_ | refine .ofEq ?_ | refine OB.To.cut rfl rfl ?_ ?_ ?_ ?_ | refine OB.To.box rfl rfl ?_ | refine ⟨⟨_, rfl, ?_⟩, ?_⟩ | refine ⟨?_, ?_⟩ | fail))
            all_goals first | (simp; done) | (rw [List.length_eraseIdx, if_pos (by omega)]; done) | (simp only [List.flatMap_append, List.map_append]; rfl)
          · rw [e0, applyR_ok e0]
            rfl
        · cases hr : inR a.m (-1) 5 with
          | false =>
            rw [if_pos ⟨k, hr⟩] at e0
            have c2 := within_T a.m (-1) 5
            rw [hr] at c2
            repeat' (first
              | (apply X.loE; (· exact aR); (· first | exact .callL rfl rfl rfl (by first | exact hck | exact c1 | exact c2) rfl | (apply LEff.callBL; (· rfl); (· rfl); (· exact hck); (· exact aB); (· rfl)) | (apply LEff.callBL; (· rfl); (· rfl); (· exact c1); (· exact aB); (· rfl)) | (apply LEff.callBL; (· rfl); (· rfl); (· exact c2); (· exact aB); (· rfl))))
              | refine X.loc ?_
              | refine nx ?_
              | refine X.cdT ?_
              | refine X.cdF ?_
              | (refine WP.condBit rfl ?_ ?_)
              | (refine WP.cond rfl ?_ ?_ <;> intro hcond)
              | (apply X.gsE; (· exact aR); (· exact aV); (· exact aW); (· intro hc; first | exact .callG rfl rfl rfl (by first | exact hck | exact c1 | exact c2) rfl | (apply LEff.callBG; (· rfl); (· rfl); (· exact hck); (· exact aB); (· rfl)) | (apply LEff.callBG; (· rfl); (· rfl); (· exact c1); (· exact aB); (· rfl)) | (apply LEff.callBG; (· rfl); (· rfl); (· exact c2); (· exact aB); (· rfl))); (· exact aR))
              | refine X.gst ?_ | refine X.gld ?_ | refine X.new ?_ | refine X.app ?_ | refine X.appS ?_ | refine X.stoW ?_ | refine X.stoB ?_ | refine X.stoR ?_ | refine X.gand ?_ | refine X.gor ?_
              | (apply X.cal false; (· exact aR); (· exact hcp); (· exact aC))
              | refine nd ?_
              | ((with_reducible apply drwK.mk); (· kernel_rfl); (· exact aF))
              | fail)
            refine .le (s' := ⟨[(4, .optr 4 0), (5, .fv (.int .i64 2))], [(4, .box 50 ((encCf cf0).map .fv))]⟩) ?_ (.fun (.inl rfl) rfl ?_)
            · skip
              refine St.to [] [] rfl rfl ?_ ?_ <;> (repeat' (first | exact tA | refine t1 ?_ | exact tB | refine t2 ?_ ?_ | refine t3 ?_ | refine t4 ?_ ?_ | refine .ofEq ?_ | refine OB.To.cut rfl rfl ?_ ?_ ?_ ?_ | refine OB.To.box rfl rfl ?_ | refine ⟨⟨_, rfl, ?_⟩, ?_⟩ | refine ⟨?_, ?_⟩ | fail))
            · rw [applyR_bad (by rw [e0]; first | exact he | decide), e0]
              rfl
          | true =>
            rw [if_neg (by rw [hr]; simp)] at e0
            have c2 := within_T a.m (-1) 5
            rw [hr] at c2
            have hset := po_modify c.ps i hi a.m
            repeat' (first
              | (apply X.loE; (· exact aR); (· first | exact .callL rfl rfl rfl (by first | exact hck | exact c1 | exact c2) rfl | (apply LEff.callBL; (· rfl); (· rfl); (· exact hck); (· exact aB); (· rfl)) | (apply LEff.callBL; (· rfl); (· rfl); (· exact c1); (· exact aB); (· rfl)) | (apply LEff.callBL; (· rfl); (· rfl); (· exact c2); (· exact aB); (· rfl))))
              | refine X.loc ?_
              | (apply X.stRE; (· exact aS); (· exact hset); (· exact aE))
              | refine nx ?_
              | refine X.cdT ?_
              | refine X.cdF ?_
              | (refine WP.condBit rfl ?_ ?_)
              | (refine WP.cond rfl ?_ ?_ <;> intro hcond)
              | (apply X.gsE; (· exact aR); (· exact aV); (· exact aW); (· intro hc; first | exact .callG rfl rfl rfl (by first | exact hck | exact c1 | exact c2) rfl | (apply LEff.callBG; (· rfl); (· rfl); (· exact hck); (· exact aB); (· rfl)) | (apply LEff.callBG; (· rfl); (· rfl); (· exact c1); (· exact aB); (· rfl)) | (apply LEff.callBG; (· rfl); (· rfl); (· exact c2); (· exact aB); (· rfl))); (· exact aR))
              | refine X.gst ?_ | refine X.gld ?_ | refine X.new ?_ | refine X.app ?_ | refine X.appS ?_ | refine X.stoW ?_ | refine X.stoB ?_ | refine X.stoR ?_ | refine X.gand ?_ | refine X.gor ?_
              | (apply X.cal false; (· exact aR); (· exact hcp); (· exact aC))
              | refine nd ?_
              | ((with_reducible apply drwK.mk); (· kernel_rfl); (· exact aF))
              | fail)
            refine .le (s' := ⟨[(4, .optr 4 0), (5, .fv (.int .i64 0))], [(4, .box 50 ((encCf (applyC c a)).map .fv))]⟩) ?_ (.fun (.inl rfl) rfl ?_)
            · have e5 : applyC c a = { c with ps := c.ps.modify i fun p => { p with ch := a.m } } := by rw [applyC, if_neg (by rw [k]; decide), if_neg (by rw [k]; decide), if_neg (by rw [k]; decide), if_neg (by rw [k]; decide), if_pos k, ← hx, Int.toNat_natCast]
              rw [e5]
              refine St.to [] [16, 316, 616] rfl rfl ?_ ?_ <;> (repeat' (first | exact tA | refine t1 ?_ | exact tB | refine t2 ?_ ?_ | refine t3 ?_ | refine t4 ?_ ?_ | refine .ofEq ?_ | refine OB.To.cut rfl rfl ?_ ?_ ?_ ?_ | refine OB.To.box rfl rfl ?_ | refine ⟨⟨_, rfl, ?_⟩, ?_⟩ | refine ⟨?_, ?_⟩ | fail))
              all_goals first | (simp; done) | (rw [List.length_eraseIdx, if_pos (by omega)]; done) | (simp only [List.flatMap_append, List.map_append]; rfl)
            · rw [e0, applyR_ok e0]
              rfl
    rw [if_neg k46] at e0
    have k4 : a.kind ≠ 4 := fun h => k46 (.inl h)
    have k6 : a.kind ≠ 6 := fun h => k46 (.inr h)
    by_cases k : a.kind = 5
    · rw [if_pos k] at e0
      by_cases hn : a.n < 0 ∨ (c.acs.length : Int) ≤ a.n
      · rw [if_pos hn] at e0
        repeat' (first
          | (apply X.loE; (· exact aR); (· first | exact .callL rfl rfl rfl (hck) rfl | (apply LEff.callBL; (· rfl); (· rfl); (· exact hck); (· exact aB); (· rfl))))
          | refine X.loc ?_
          | refine nx ?_
          | refine X.cdT ?_
          | refine X.cdF ?_
          | (refine WP.condBit rfl ?_ ?_)
          | (refine WP.cond rfl ?_ ?_ <;> intro hcond)
          | (apply X.gsE; (· exact aR); (· exact aV); (· exact aW); (· intro hc; first | exact .callG rfl rfl rfl (hck) rfl | (apply LEff.callBG; (· rfl); (· rfl); (· exact hck); (· exact aB); (· rfl))); (· exact aR))
          | refine X.gst ?_ | refine X.gld ?_ | refine X.new ?_ | refine X.app ?_ | refine X.appS ?_ | refine X.stoW ?_ | refine X.stoB ?_ | refine X.stoR ?_ | refine X.gand ?_ | refine X.gor ?_
          | (apply X.cal false; (· exact aR); (· exact hcp); (· exact aC))
          | refine nd ?_
          | ((with_reducible apply drwK.mk); (· kernel_rfl); (· exact aF))
          | fail)
        refine .le (s' := ⟨[(4, .optr 4 0), (5, .fv (.int .i64 6))], [(4, .box 50 ((encCf cf0).map .fv))]⟩) ?_ (.fun (.inl rfl) rfl ?_)
        · skip
          refine St.to [] [] rfl rfl ?_ ?_ <;> (repeat' (first | exact tA | refine t1 ?_ | exact tB | refine t2 ?_ ?_ | refine t3 ?_ | refine t4 ?_ ?_ | refine .ofEq ?_ | refine OB.To.cut rfl rfl ?_ ?_ ?_ ?_ | refine OB.To.box rfl rfl ?_ | refine ⟨⟨_, rfl, ?_⟩, ?_⟩ | refine ⟨?_, ?_⟩ | fail))
        · rw [applyR_bad (by rw [e0]; first | exact he | decide), e0]
          rfl
      · rw [if_neg hn] at e0
        obtain ⟨i, hi⟩ : ∃ i : Nat, a.n = i := ⟨a.n.toNat, by omega⟩
        have c2 := deleteAc_T c.acs i (a.n + 1) (by omega) (by omega) hl.2.2
        rw [← hi] at c2
        repeat' (first
          | (apply X.loE; (· exact aR); (· first | exact .callL rfl rfl rfl (hck) rfl | (apply LEff.callBL; (· rfl); (· rfl); (· exact hck); (· exact aB); (· rfl))))
          | refine X.loc ?_
          | refine nx ?_
          | refine X.cdT ?_
          | refine X.cdF ?_
          | (refine WP.condBit rfl ?_ ?_)
          | (refine WP.cond rfl ?_ ?_ <;> intro hcond)
          | (apply X.gsE; (· exact aR); (· exact aV); (· exact aW); (· intro hc; first | exact .callG rfl rfl rfl (hck) rfl | (apply LEff.callBG; (· rfl); (· rfl); (· exact hck); (· exact aB); (· rfl))); (· exact aR))
          | refine X.gst ?_ | refine X.gld ?_ | refine X.new ?_ | refine X.app ?_ | refine X.appS ?_ | refine X.stoW ?_ | refine X.stoB ?_ | refine X.stoR ?_ | refine X.gand ?_ | refine X.gor ?_
          | (apply X.cal false; (· exact aR); (· exact hcp); (· exact aC))
          | (apply X.cal false; (· exact aR); (· exact c2); (· exact aC))
          | refine nd ?_
          | ((with_reducible apply drwK.mk); (· kernel_rfl); (· exact aF))
          | fail)
        refine .le (s' := ⟨[(4, .optr 4 0), (5, .fv (.int .i64 0))], [(4, .box 50 ((encCf (applyC c a)).map .fv))]⟩) ?_ (.fun (.inl rfl) rfl ?_)
        · have e5 : applyC c a = { c with acs := c.acs.eraseIdx i } := by rw [applyC, if_neg (by rw [k]; decide), if_neg (by rw [k]; decide), if_neg (by rw [k]; decide), if_neg (by rw [k]; decide), if_neg (by rw [k]; decide), hi, Int.toNat_natCast]
          rw [e5]
          refine St.to [] [16, 316, 111] rfl rfl ?_ ?_ <;> (repeat' (first | exact tA | refine t1 ?_ | exact tB | refine t2 ?_ ?_ | refine t3 ?_ | refine t4 ?_ ?_ | refine .ofEq ?_ | refine OB.To.cut rfl rfl ?_ ?_ ?_ ?_ | refine OB.To.box rfl rfl ?_ | refine ⟨⟨_, rfl, ?_⟩, ?_⟩ | refine ⟨?_, ?_⟩ | fail))
          all_goals first | (simp; done) | (rw [List.length_eraseIdx, if_pos (by omega)]; done) | (simp only [List.flatMap_append, List.map_append]; rfl)
        · rw [e0, applyR_ok e0]
          rfl
    · rw [if_neg k] at e0
      repeat' (first
        | (apply X.loE; (· exact aR); (· first | exact .callL rfl rfl rfl (hck) rfl | (apply LEff.callBL; (· rfl); (· rfl); (· exact hck); (· exact aB); (· rfl))))
        | refine X.loc ?_
        | refine nx ?_
        | refine X.cdT ?_
        | refine X.cdF ?_
        | (refine WP.condBit rfl ?_ ?_)
        | (refine WP.cond rfl ?_ ?_ <;> intro hcond)
        | (apply X.gsE; (· exact aR); (· exact aV); (· exact aW); (· intro hc; first | exact .callG rfl rfl rfl (hck) rfl | (apply LEff.callBG; (· rfl); (· rfl); (· exact hck); (· exact aB); (· rfl))); (· exact aR))
        | refine X.gst ?_ | refine X.gld ?_ | refine X.new ?_ | refine X.app ?_ | refine X.appS ?_ | refine X.stoW ?_ | refine X.stoB ?_ | refine X.stoR ?_ | refine X.gand ?_ | refine X.gor ?_
        | (apply X.cal false; (· exact aR); (· exact hcp); (· exact aC))
        | refine nd ?_
        | ((with_reducible apply drwK.mk); (· kernel_rfl); (· exact aF))
        | fail)
      refine .le (s' := ⟨[(4, .optr 4 0), (5, .fv (.int .i64 3))], [(4, .box 50 ((encCf cf0).map .fv))]⟩) ?_ (.fun (.inl rfl) rfl ?_)
      · skip
        refine St.to [] [] rfl rfl ?_ ?_ <;> (repeat' (first | exact tA | refine t1 ?_ | exact tB | refine t2 ?_ ?_ | refine t3 ?_ | refine t4 ?_ ?_ | refine .ofEq ?_ | refine OB.To.cut rfl rfl ?_ ?_ ?_ ?_ | refine OB.To.box rfl rfl ?_ | refine ⟨⟨_, rfl, ?_⟩, ?_⟩ | refine ⟨?_, ?_⟩ | fail))
      · rw [applyR_bad (by rw [e0]; first | exact he | decide), e0]
        rfl
end Go.Proofs.Ytdbbmjdeeenlhaa

/- What comes of raw numbers, as the program makes it. -/
namespace Go.Proofs.Ytdbbmjdeeenlhaa
open Go.RowKit
set_option maxRecDepth 100000

theorem CfOk.fit {c : Cf} (h : CfOk c) : c.Fit := by
  have h1 := h.sl
  have h2 := h.pl
  have h3 := h.al
  exact ⟨by omega, by omega, by omega⟩
set_option maxHeartbeats 8000000 in
theorem conf_T (l : List Rq) (m : Nat) (hok : ∀ r ∈ l, r.Ok) (hm : m ≤ 100) : Fun Try.prog 25 [.fv (slOf encRq l), .fv (.int .i64 (m : Int))] (.agg ((encCf (confOf l m)).map .fv)) := by
  refine Fun.body tbl_ok Try.func25 rfl (by kernel_rfl) rfl rfl rfl ?_
  repeat' (first
    | refine X.loc ?_
    | refine nx ?_
    | refine X.cdT ?_
    | refine X.cdF ?_
    | (refine WP.condBit rfl ?_ ?_)
    | (refine WP.cond rfl ?_ ?_ <;> intro hcond)
    | refine X.gst ?_ | refine X.gld ?_ | refine X.new ?_ | refine X.app ?_ | refine X.appS ?_ | refine X.stoW ?_ | refine X.stoB ?_ | refine X.stoR ?_ | refine X.gand ?_ | refine X.gor ?_
    | refine nd ?_
    | ((with_reducible apply drwK.mk); (· kernel_rfl); (· exact aF))
    | fail)
  refine WP.loop (ι := Nat) (fun k => ⟨[(0, .fv (slOf encRq l)), (1, .fv (.int .i64 (m : Int))), (4, .optr 4 0), (5, .optr 5 0), (13, .fv (.int .i64 k))], [(4, .box 50 [.nil, .nil, .nil]), (5, .box 50 ((encCf (conf0 k)).map .fv))]⟩) (fun k => k ≤ 4) (fun k => 4 - k) 0 (by omega) ?_ ?_
  · skip
    refine St.to [] [] rfl rfl ?_ ?_ <;> (repeat' (first | exact tA | refine t1 ?_ | exact tB | refine t2 ?_ ?_ | refine t3 ?_ | refine t4 ?_ ?_ | refine .ofEq ?_ | refine OB.To.cut rfl rfl ?_ ?_ ?_ ?_ | refine OB.To.box rfl rfl ?_ | refine ⟨⟨_, rfl, ?_⟩, ?_⟩ | refine ⟨?_, ?_⟩ | fail))
  rintro k hk
  try dsimp only
  by_cases hlt : k < 4
  case pos =>
    have hap := apply_T (conf0 k) (baseA k) (conf0_ok k).fit
    have hst : conf0 (k + 1) = if applyE (conf0 k) (baseA k) = 0 then applyR (conf0 k) (baseA k) else conf0 k := rfl
    have hbase : baseA k = { de0 with kind := 1, sw := ⟨1 + (k : Int), 1 + (k : Int) / 3, ([200, 201, 0, 200] : List Int).getD k 0⟩ } := rfl
    generalize applyR (conf0 k) (baseA k) = R at *
    generalize applyE (conf0 k) (baseA k) = e at *
    generalize baseA k = B at *
    generalize conf0 k = C at *
    subst hbase
    by_cases he : e = 0
    · rw [if_pos he] at hst
      subst he
      repeat' (first
        | (apply X.loE; (· exact aR); (· first | exact .eff (.bsliceFS rfl rfl rfl rfl rfl rfl) | (exact .eff (.idxD (enc := encI) (l := [200, 201, 0, 200]) (0 : Int) rfl rfl rfl (fun _ => rfl) (show 0 ≤ _ ∧ _ < (4 : Int) by omega))) | exact .callL rfl rfl rfl (hap) rfl | (apply LEff.callBL; (· rfl); (· rfl); (· exact hap); (· exact aB); (· rfl))))
        | refine X.loc ?_
        | refine nx ?_
        | refine X.cdT ?_
        | refine X.cdF ?_
        | (refine WP.condBit rfl ?_ ?_)
        | (refine WP.cond rfl ?_ ?_ <;> intro hcond)
        | (apply X.gsE; (· exact aR); (· exact aV); (· exact aW); (· intro hc; first | exact .eff (.bsliceFS rfl rfl rfl rfl rfl rfl) | (exact .eff (.idxD (enc := encI) (l := [200, 201, 0, 200]) (0 : Int) rfl rfl rfl (fun _ => rfl) (show 0 ≤ _ ∧ _ < (4 : Int) by omega))) | exact .callG rfl rfl rfl (hap) rfl | (apply LEff.callBG; (· rfl); (· rfl); (· exact hap); (· exact aB); (· rfl))); (· exact aR))
        | refine X.gst ?_ | refine X.gld ?_ | refine X.new ?_ | refine X.app ?_ | refine X.appS ?_ | refine X.stoW ?_ | refine X.stoB ?_ | refine X.stoR ?_ | refine X.gand ?_ | refine X.gor ?_
        | refine nd ?_
        | ((with_reducible apply drwK.mk); (· kernel_rfl); (· exact aF))
        | fail)
      refine ⟨k + 1, by omega, by omega, ?_⟩
      try dsimp only
      rw [hst]
      refine St.to [] [] rfl rfl ?_ ?_ <;> (repeat' (first | exact tA | refine t1 ?_ | exact tB | refine t2 ?_ ?_ | refine t3 ?_ | refine t4 ?_ ?_ | refine .ofEq ?_ | refine OB.To.cut rfl rfl ?_ ?_ ?_ ?_ | refine OB.To.box rfl rfl ?_ | refine ⟨⟨_, rfl, ?_⟩, ?_⟩ | refine ⟨?_, ?_⟩ | fail))
    · rw [if_neg he] at hst
      repeat' (first
        | (apply X.loE; (· exact aR); (· first | exact .eff (.bsliceFS rfl rfl rfl rfl rfl rfl) | (exact .eff (.idxD (enc := encI) (l := [200, 201, 0, 200]) (0 : Int) rfl rfl rfl (fun _ => rfl) (show 0 ≤ _ ∧ _ < (4 : Int) by omega))) | exact .callL rfl rfl rfl (hap) rfl | (apply LEff.callBL; (· rfl); (· rfl); (· exact hap); (· exact aB); (· rfl))))
        | refine X.loc ?_
        | refine nx ?_
        | refine X.cdT ?_
        | refine X.cdF ?_
        | (refine WP.condBit rfl ?_ ?_)
        | (refine WP.cond rfl ?_ ?_ <;> intro hcond)
        | (apply X.gsE; (· exact aR); (· exact aV); (· exact aW); (· intro hc; first | exact .eff (.bsliceFS rfl rfl rfl rfl rfl rfl) | (exact .eff (.idxD (enc := encI) (l := [200, 201, 0, 200]) (0 : Int) rfl rfl rfl (fun _ => rfl) (show 0 ≤ _ ∧ _ < (4 : Int) by omega))) | exact .callG rfl rfl rfl (hap) rfl | (apply LEff.callBG; (· rfl); (· rfl); (· exact hap); (· exact aB); (· rfl))); (· exact aR))
        | refine X.gst ?_ | refine X.gld ?_ | refine X.new ?_ | refine X.app ?_ | refine X.appS ?_ | refine X.stoW ?_ | refine X.stoB ?_ | refine X.stoR ?_ | refine X.gand ?_ | refine X.gor ?_
        | refine nd ?_
        | ((with_reducible apply drwK.mk); (· kernel_rfl); (· exact aF))
        | fail)
      refine ⟨k + 1, by omega, by omega, ?_⟩
      try dsimp only
      rw [hst]
      refine St.to [] [] rfl rfl ?_ ?_ <;> (repeat' (first | exact tA | refine t1 ?_ | exact tB | refine t2 ?_ ?_ | refine t3 ?_ | refine t4 ?_ ?_ | refine .ofEq ?_ | refine OB.To.cut rfl rfl ?_ ?_ ?_ ?_ | refine OB.To.box rfl rfl ?_ | refine ⟨⟨_, rfl, ?_⟩, ?_⟩ | refine ⟨?_, ?_⟩ | fail))
  case neg =>
    obtain rfl : k = 4 := by omega
    have h0 := confOf_zero l
    generalize conf0 4 = C0 at *
    repeat' (first
      | refine X.loc ?_
      | refine nx ?_
      | refine X.cdT ?_
      | refine X.cdF ?_
      | (refine WP.condBit rfl ?_ ?_)
      | (refine WP.cond rfl ?_ ?_ <;> intro hcond)
      | refine X.gst ?_ | refine X.gld ?_ | refine X.new ?_ | refine X.app ?_ | refine X.appS ?_ | refine X.stoW ?_ | refine X.stoB ?_ | refine X.stoR ?_ | refine X.gand ?_ | refine X.gor ?_
      | refine nd ?_
      | ((with_reducible apply drwK.mk); (· kernel_rfl); (· exact aF))
      | fail)
    refine WP.loop (ι := Nat) (fun k => ⟨[(0, .fv (slOf encRq l)), (1, .fv (.int .i64 (m : Int))), (4, .optr 4 0), (5, .optr 5 0), (9, .fv (.int .i64 k))], [(4, .box 50 [.nil, .nil, .nil]), (5, .box 50 ((encCf (confOf l k)).map .fv))]⟩) (fun k => k ≤ l.length ∧ k ≤ m) (fun k => m - k) 0 (by omega) ?_ ?_
    · rw [h0]
      refine St.to [] [] rfl rfl ?_ ?_ <;> (repeat' (first | exact tA | refine t1 ?_ | exact tB | refine t2 ?_ ?_ | refine t3 ?_ | refine t4 ?_ ?_ | refine .ofEq ?_ | refine OB.To.cut rfl rfl ?_ ?_ ?_ ?_ | refine OB.To.box rfl rfl ?_ | refine ⟨⟨_, rfl, ?_⟩, ?_⟩ | refine ⟨?_, ?_⟩ | fail))
    rintro k ⟨hk, hkm⟩
    try dsimp only
    by_cases hlt : k < l.length ∧ k < m
    case neg =>
      rw [confOf_all (l := l) (k := k) (m := m) (by omega)]
      repeat' (first
        | refine X.loc ?_
        | refine nx ?_
        | refine X.cdT ?_
        | refine X.cdF ?_
        | (refine WP.condBit rfl ?_ ?_)
        | (refine WP.cond rfl ?_ ?_ <;> intro hcond)
        | refine X.gst ?_ | refine X.gld ?_ | refine X.new ?_ | refine X.app ?_ | refine X.appS ?_ | refine X.stoW ?_ | refine X.stoB ?_ | refine X.stoR ?_ | refine X.gand ?_ | refine X.gor ?_
        | refine nd ?_
        | ((with_reducible apply drwK.mk); (· kernel_rfl); (· exact aF))
        | fail)
      exact .fun (.inl rfl) rfl rfl
    case pos =>
      obtain ⟨x, hx⟩ : ∃ x, l[k]? = some x := ⟨_, List.getElem?_eq_getElem hlt.1⟩
      have hch := change_T x (hok x (List.mem_of_getElem? hx))
      have hap := apply_T (confOf l k) (changeOf x) (confOf_ok l k).fit
      have hst : confOf l (k + 1) = if applyE (confOf l k) (changeOf x) = 0 then applyR (confOf l k) (changeOf x) else confOf l k := confOf_succ hx
      generalize applyR (confOf l k) (changeOf x) = R at *
      generalize applyE (confOf l k) (changeOf x) = e at *
      generalize changeOf x = B at *
      generalize confOf l k = C at *
      by_cases he : e = 0
      · rw [if_pos he] at hst
        subst he
        repeat' (first
          | (apply X.loE; (· exact aR); (· first | exact .callL rfl rfl rfl (by first | exact hap | exact hch) rfl | (apply LEff.callBL; (· rfl); (· rfl); (· exact hap); (· exact aB); (· rfl)) | (apply LEff.callBL; (· rfl); (· rfl); (· exact hch); (· exact aB); (· rfl))))
          | refine X.loc ?_
          | refine nx ?_
          | refine X.cdT ?_
          | refine X.cdF ?_
          | (refine WP.condBit rfl ?_ ?_)
          | (refine WP.cond rfl ?_ ?_ <;> intro hcond)
          | (apply X.gsE; (· exact aR); (· exact aV); (· exact aW); (· intro hc; first | exact .callG rfl rfl rfl (by first | exact hap | exact hch) rfl | (apply LEff.callBG; (· rfl); (· rfl); (· exact hap); (· exact aB); (· rfl)) | (apply LEff.callBG; (· rfl); (· rfl); (· exact hch); (· exact aB); (· rfl))); (· exact aR))
          | refine X.gst ?_ | refine X.gld ?_ | refine X.new ?_ | refine X.app ?_ | refine X.appS ?_ | refine X.stoW ?_ | refine X.stoB ?_ | refine X.stoR ?_ | refine X.gand ?_ | refine X.gor ?_
          | refine nd ?_
          | ((with_reducible apply drwK.mk); (· kernel_rfl); (· exact aF))
          | fail)
        refine ⟨k + 1, by omega, by omega, ?_⟩
        try dsimp only
        rw [hst]
        refine St.to [] [] rfl rfl ?_ ?_ <;> (repeat' (first | exact tA | refine t1 ?_ | exact tB | refine t2 ?_ ?_ | refine t3 ?_ | refine t4 ?_ ?_ | refine .ofEq ?_ | refine OB.To.cut rfl rfl ?_ ?_ ?_ ?_ | refine OB.To.box rfl rfl ?_ | refine ⟨⟨_, rfl, ?_⟩, ?_⟩ | refine ⟨?_, ?_⟩ | fail))
      · rw [if_neg he] at hst
        repeat' (first
          | (apply X.loE; (· exact aR); (· first | exact .callL rfl rfl rfl (by first | exact hap | exact hch) rfl | (apply LEff.callBL; (· rfl); (· rfl); (· exact hap); (· exact aB); (· rfl)) | (apply LEff.callBL; (· rfl); (· rfl); (· exact hch); (· exact aB); (· rfl))))
          | refine X.loc ?_
          | refine nx ?_
          | refine X.cdT ?_
          | refine X.cdF ?_
          | (refine WP.condBit rfl ?_ ?_)
          | (refine WP.cond rfl ?_ ?_ <;> intro hcond)
          | (apply X.gsE; (· exact aR); (· exact aV); (· exact aW); (· intro hc; first | exact .callG rfl rfl rfl (by first | exact hap | exact hch) rfl | (apply LEff.callBG; (· rfl); (· rfl); (· exact hap); (· exact aB); (· rfl)) | (apply LEff.callBG; (· rfl); (· rfl); (· exact hch); (· exact aB); (· rfl))); (· exact aR))
          | refine X.gst ?_ | refine X.gld ?_ | refine X.new ?_ | refine X.app ?_ | refine X.appS ?_ | refine X.stoW ?_ | refine X.stoB ?_ | refine X.stoR ?_ | refine X.gand ?_ | refine X.gor ?_
          | refine nd ?_
          | ((with_reducible apply drwK.mk); (· kernel_rfl); (· exact aF))
          | fail)
        refine ⟨k + 1, by omega, by omega, ?_⟩
        try dsimp only
        rw [hst]
        refine St.to [] [] rfl rfl ?_ ?_ <;> (repeat' (first | exact tA | refine t1 ?_ | exact tB | refine t2 ?_ ?_ | refine t3 ?_ | refine t4 ?_ ?_ | refine .ofEq ?_ | refine OB.To.cut rfl rfl ?_ ?_ ?_ ?_ | refine OB.To.box rfl rfl ?_ | refine ⟨⟨_, rfl, ?_⟩, ?_⟩ | refine ⟨?_, ?_⟩ | fail))
end Go.Proofs.Ytdbbmjdeeenlhaa
