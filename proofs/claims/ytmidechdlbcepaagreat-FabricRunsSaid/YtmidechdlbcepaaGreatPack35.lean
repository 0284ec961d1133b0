import Derived.Test.YtmidechdlbcepaaGreatPack34
import Derived.Test.YtmidechdlbcepaaGreatPack25
import Derived.Test.YtmidechdlbcepaaGreatPack29
import Derived.Test.YtmidechdlbcepaaGreatPack30
import Derived.Test.YtmidechdlbcepaaGreatPack22
import Derived.Test.YtmidechdlbcepaaGreatPack33
import Derived.Test.YtmidechdlbcepaaGreatPack06
import Derived.Test.YtmidechdlbcepaaGreatPack26
set_option linter.unusedSimpArgs false
set_option linter.unusedVariables false
namespace Go.Proofs.YtmidechdlbcepaaGreat
open Go.RowKit
set_option maxRecDepth 100000
theorem cloneSw_T (l : List Sw) (hl : l.length * 24 ≤ 140737488355328) : FunO Tryz.prog 60 [.fv (slOf encSw l)] [] (.osl 7) [(7, .row 44 3 l.length ((l.flatMap encSw).map .fv))] := by
  refine FunO.bodyL tbl_ok Tryz.func60 rfl (by kernel_rfl) rfl rfl rfl ?_
  rcases Nat.eq_zero_or_pos l.length with h0 | h0
  · obtain rfl := List.eq_nil_of_length_eq_zero h0
    repeat' (first | refine X.loc ?_ | refine nx ?_ | refine cb ?_ ?_ | (refine cc ?_ ?_ <;> intro hcond) | refine rb ?_ | refine nd ?_ | refine dk ?_ | fail)
    · exact rq ⟨[(2, .osl 7)], [(7, .row 44 3 0 [])]⟩ (tq [(7, .nil)] [])
    · skip
      refine .ofL (s' := ⟨[(2, .osl 7)], [(7, .row 44 3 0 [])]⟩) (by first | exact .inl rfl | exact .inr rfl) ?_ rfl rfl (by repeat' (first | exact trivial | refine ⟨⟨_, rfl, fun _ _ _ _ h => h⟩, ?_⟩))
      refine St.to [(7, .id 7)] [] rfl rfl ?_ ?_ <;> (repeat' (first | exact tA | refine t1 ?_ | exact tB | refine t2 ?_ ?_ | refine t3 ?_ | refine t4 ?_ ?_ | refine .ofEq ?_ | refine OB.To.cut rfl rfl ?_ ?_ ?_ ?_ | refine OB.To.box rfl rfl ?_ | refine ⟨⟨_, rfl, ?_⟩, ?_⟩ | refine ⟨?_, ?_⟩ | fail))
      rfl
  · skip
    repeat' (first | refine X.loc ?_ | refine nx ?_ | refine cb ?_ ?_ | (refine cc ?_ ?_ <;> intro hcond) | refine rb ?_ | refine nd ?_ | refine dk ?_ | fail)
    refine .ofL (s' := ⟨[(2, .osl 7)], [(7, .row 44 3 l.length ((l.flatMap encSw).map .fv))]⟩) (by first | exact .inl rfl | exact .inr rfl) ?_ rfl rfl (by repeat' (first | exact trivial | refine ⟨⟨_, rfl, fun _ _ _ _ h => h⟩, ?_⟩))
    refine St.to [(7, .id 7)] [] rfl rfl ?_ ?_ <;> (repeat' (first | exact tA | refine t1 ?_ | exact tB | refine t2 ?_ ?_ | refine t3 ?_ | refine t4 ?_ ?_ | refine .ofEq ?_ | refine OB.To.cut rfl rfl ?_ ?_ ?_ ?_ | refine OB.To.box rfl rfl ?_ | refine ⟨⟨_, rfl, ?_⟩, ?_⟩ | refine ⟨?_, ?_⟩ | fail))
    all_goals first | omega | simp
theorem clonePo_T (l : List Po) (hl : l.length * 40 ≤ 140737488355328) : FunO Tryz.prog 61 [.fv (slOf encPo l)] [] (.osl 7) [(7, .row 69 5 l.length ((l.flatMap encPo).map .fv))] := by
  refine FunO.bodyL tbl_ok Tryz.func61 rfl (by kernel_rfl) rfl rfl rfl ?_
  rcases Nat.eq_zero_or_pos l.length with h0 | h0
  · obtain rfl := List.eq_nil_of_length_eq_zero h0
    repeat' (first | refine X.loc ?_ | refine nx ?_ | refine cb ?_ ?_ | (refine cc ?_ ?_ <;> intro hcond) | refine rb ?_ | refine nd ?_ | refine dk ?_ | fail)
    · exact rq ⟨[(2, .osl 7)], [(7, .row 69 5 0 [])]⟩ (tq [(7, .nil)] [])
    · skip
      refine .ofL (s' := ⟨[(2, .osl 7)], [(7, .row 69 5 0 [])]⟩) (by first | exact .inl rfl | exact .inr rfl) ?_ rfl rfl (by repeat' (first | exact trivial | refine ⟨⟨_, rfl, fun _ _ _ _ h => h⟩, ?_⟩))
      refine St.to [(7, .id 7)] [] rfl rfl ?_ ?_ <;> (repeat' (first | exact tA | refine t1 ?_ | exact tB | refine t2 ?_ ?_ | refine t3 ?_ | refine t4 ?_ ?_ | refine .ofEq ?_ | refine OB.To.cut rfl rfl ?_ ?_ ?_ ?_ | refine OB.To.box rfl rfl ?_ | refine ⟨⟨_, rfl, ?_⟩, ?_⟩ | refine ⟨?_, ?_⟩ | fail))
      rfl
  · skip
    repeat' (first | refine X.loc ?_ | refine nx ?_ | refine cb ?_ ?_ | (refine cc ?_ ?_ <;> intro hcond) | refine rb ?_ | refine nd ?_ | refine dk ?_ | fail)
    refine .ofL (s' := ⟨[(2, .osl 7)], [(7, .row 69 5 l.length ((l.flatMap encPo).map .fv))]⟩) (by first | exact .inl rfl | exact .inr rfl) ?_ rfl rfl (by repeat' (first | exact trivial | refine ⟨⟨_, rfl, fun _ _ _ _ h => h⟩, ?_⟩))
    refine St.to [(7, .id 7)] [] rfl rfl ?_ ?_ <;> (repeat' (first | exact tA | refine t1 ?_ | exact tB | refine t2 ?_ ?_ | refine t3 ?_ | refine t4 ?_ ?_ | refine .ofEq ?_ | refine OB.To.cut rfl rfl ?_ ?_ ?_ ?_ | refine OB.To.box rfl rfl ?_ | refine ⟨⟨_, rfl, ?_⟩, ?_⟩ | refine ⟨?_, ?_⟩ | fail))
    all_goals first | omega | simp
theorem cloneAc_T (l : List Ac) (hl : l.length * 72 ≤ 140737488355328) : FunO Tryz.prog 62 [.fv (slOf encAc l)] [] (.osl 7) [(7, .row 38 9 l.length ((l.flatMap encAc).map .fv))] := by
  refine FunO.bodyL tbl_ok Tryz.func62 rfl (by kernel_rfl) rfl rfl rfl ?_
  rcases Nat.eq_zero_or_pos l.length with h0 | h0
  · obtain rfl := List.eq_nil_of_length_eq_zero h0
    repeat' (first | refine X.loc ?_ | refine nx ?_ | refine cb ?_ ?_ | (refine cc ?_ ?_ <;> intro hcond) | refine rb ?_ | refine nd ?_ | refine dk ?_ | fail)
    · exact rq ⟨[(2, .osl 7)], [(7, .row 38 9 0 [])]⟩ (tq [(7, .nil)] [])
    · skip
      refine .ofL (s' := ⟨[(2, .osl 7)], [(7, .row 38 9 0 [])]⟩) (by first | exact .inl rfl | exact .inr rfl) ?_ rfl rfl (by repeat' (first | exact trivial | refine ⟨⟨_, rfl, fun _ _ _ _ h => h⟩, ?_⟩))
      refine St.to [(7, .id 7)] [] rfl rfl ?_ ?_ <;> (repeat' (first | exact tA | refine t1 ?_ | exact tB | refine t2 ?_ ?_ | refine t3 ?_ | refine t4 ?_ ?_ | refine .ofEq ?_ | refine OB.To.cut rfl rfl ?_ ?_ ?_ ?_ | refine OB.To.box rfl rfl ?_ | refine ⟨⟨_, rfl, ?_⟩, ?_⟩ | refine ⟨?_, ?_⟩ | fail))
      rfl
  · skip
    repeat' (first | refine X.loc ?_ | refine nx ?_ | refine cb ?_ ?_ | (refine cc ?_ ?_ <;> intro hcond) | refine rb ?_ | refine nd ?_ | refine dk ?_ | fail)
    refine .ofL (s' := ⟨[(2, .osl 7)], [(7, .row 38 9 l.length ((l.flatMap encAc).map .fv))]⟩) (by first | exact .inl rfl | exact .inr rfl) ?_ rfl rfl (by repeat' (first | exact trivial | refine ⟨⟨_, rfl, fun _ _ _ _ h => h⟩, ?_⟩))
    refine St.to [(7, .id 7)] [] rfl rfl ?_ ?_ <;> (repeat' (first | exact tA | refine t1 ?_ | exact tB | refine t2 ?_ ?_ | refine t3 ?_ | refine t4 ?_ ?_ | refine .ofEq ?_ | refine OB.To.cut rfl rfl ?_ ?_ ?_ ?_ | refine OB.To.box rfl rfl ?_ | refine ⟨⟨_, rfl, ?_⟩, ?_⟩ | refine ⟨?_, ?_⟩ | fail))
    all_goals first | omega | simp
def Cf.Fit (c : Cf) : Prop := c.ss.length * 24 ≤ 140737488355328 ∧ c.ps.length * 40 ≤ 140737488355328 ∧ c.acs.length * 72 ≤ 140737488355328
theorem Cf.Fit.small {c : Cf} (h : c.Fit) : c.Small := by
  obtain ⟨h1, h2, h3⟩ := h
  exact ⟨by omega, by omega, by omega⟩
theorem copy_T (c : Cf) (hl : c.Fit) : FunO Tryz.prog 32 [.agg ((encCf c).map .fv)] [] (.agg [.osl 7, .osl 8, .osl 9]) [(7, .row 44 3 c.ss.length ((c.ss.flatMap encSw).map .fv)), (8, .row 69 5 c.ps.length ((c.ps.flatMap encPo).map .fv)), (9, .row 38 9 c.acs.length ((c.acs.flatMap encAc).map .fv))] := by
  have hl1 := hl.1
  have hl2 := hl.2.1
  have hl3 := hl.2.2
  refine FunO.bodyL tbl_ok Tryz.func32 rfl (by kernel_rfl) rfl rfl rfl ?_
  repeat' (first | refine X.loc ?_ | refine nx ?_ | refine cb ?_ ?_ | (refine cc ?_ ?_ <;> intro hcond) | refine rb ?_ | refine X.c0 (cloneSw_T c.ss (by omega)) ?_ | refine X.c0 (clonePo_T c.ps (by omega)) ?_ | refine X.c0 (cloneAc_T c.acs (by omega)) ?_ | refine nd ?_ | refine dk ?_ | fail)
  exact rq ⟨[(2, .optr 2 0)], [(2, .box 26 [.osl 7, .osl 8, .osl 9]), (7, .row 44 3 c.ss.length ((c.ss.flatMap encSw).map .fv)), (8, .row 69 5 c.ps.length ((c.ps.flatMap encPo).map .fv)), (9, .row 38 9 c.acs.length ((c.acs.flatMap encAc).map .fv))]⟩ (tq [(7, .id 5), (8, .id 8), (9, .id 11)] [])

theorem del_cells {α : Type} {enc : α → List FV} {s : Nat} (hs : ∀ x, (enc x).length = s) (l : List α) (i : Nat) (hi : i < l.length) :
    ∃ cs1 : List AV, setC ((l.flatMap enc).map AV.fv) ((0 + i) * s) ((((l.flatMap enc).map AV.fv).drop ((i + 1) * s)).take ((l.length - (i + 1)) * s)) = some cs1 ∧ cs1.length = l.length * s ∧ cs1.take ((i + (l.length - (i + 1))) * s) = (((l.eraseIdx i).flatMap enc).map AV.fv) := by
  have hlen : ((l.flatMap enc).map AV.fv).length = l.length * s := by rw [List.length_map, flatMap_len hs]
  have e1 : (l.flatMap enc).drop ((i + 1) * s) = (l.drop (i + 1)).flatMap enc := by
    have h1 : (l.take (i + 1) ++ l.drop (i + 1)).flatMap enc = l.flatMap enc := by rw [List.take_append_drop]
    rw [← h1, List.flatMap_append, List.drop_append_of_le_length (by rw [flatMap_len hs, List.length_take]; rw [Nat.min_eq_left (by omega)]; exact Nat.le_refl _), List.drop_of_length_le (by rw [flatMap_len hs, List.length_take, Nat.min_eq_left (by omega)]; exact Nat.le_refl _), List.nil_append]
  have e2 : (l.flatMap enc).take (i * s) = (l.take i).flatMap enc := by
    have h1 : (l.take i ++ l.drop i).flatMap enc = l.flatMap enc := by rw [List.take_append_drop]
    have h2 : ((l.take i).flatMap enc).length = i * s := by rw [flatMap_len hs, List.length_take, Nat.min_eq_left (by omega)]
    rw [← h1, List.flatMap_append, ← h2, List.take_left']
    rfl
  have e3 : ((l.drop (i + 1)).flatMap enc).length = (l.length - (i + 1)) * s := by rw [flatMap_len hs, List.length_drop]
  have e4 : (((l.flatMap enc).map AV.fv).drop ((i + 1) * s)).take ((l.length - (i + 1)) * s) = ((l.drop (i + 1)).flatMap enc).map AV.fv := by
    rw [← List.map_drop, e1, List.take_of_length_le (by rw [List.length_map, e3]; exact Nat.le_refl _)]
  have hm : (i + (l.length - (i + 1))) * s = i * s + (l.length - (i + 1)) * s := Nat.add_mul _ _ _
  have hle : (i + (l.length - (i + 1))) * s ≤ l.length * s := Nat.mul_le_mul_right s (by omega)
  rw [e4, Nat.zero_add]
  have h6 := setC_mk (cs := (l.flatMap enc).map AV.fv) (off := i * s) (us := ((l.drop (i + 1)).flatMap enc).map AV.fv) (by rw [List.length_map, e3, hlen]; omega)
  refine ⟨_, h6, ?_, ?_⟩
  · rw [List.length_append, List.length_append, List.length_take, List.length_drop, hlen, List.length_map, e3]
    omega
  · rw [← List.map_take, e2, hm, List.take_append_of_le_length (by rw [List.length_append, List.length_map, List.length_map, e3, flatMap_len hs, List.length_take, Nat.min_eq_left (by omega)]; exact Nat.le_refl _), List.take_of_length_le (by rw [List.length_append, List.length_map, List.length_map, e3, flatMap_len hs, List.length_take, Nat.min_eq_left (by omega)]; exact Nat.le_refl _), ← List.map_append, ← List.flatMap_append, List.eraseIdx_eq_take_drop_succ]
theorem clr_cells {cs1 us cs2 : List AV} {n : Nat} (h : setC cs1 n us = some cs2) : cs2.take n = cs1.take n := by
  obtain ⟨h1, rfl⟩ := setC_eq h
  rw [List.append_assoc, List.take_append_of_le_length (by rw [List.length_take]; omega), List.take_take, Nat.min_self]

def zi : AV := .fv (.int .i64 0)
def zb : AV := .fv (.bool false)
theorem deletePo_T (l : List Po) (i : Nat) (j : Int) (hj : j = ((i + 1 : Nat) : Int)) (hi : i < l.length) (hl : l.length * 40 ≤ 140737488355328) : FunO Tryz.prog 90 [.osl 1000, .fv (.int .i64 (i : Int)), .fv (.int .i64 j)] [(1000, .row 69 5 l.length ((l.flatMap encPo).map .fv))] (.osl 7) [(7, .row 69 5 (l.length - 1) (((l.eraseIdx i).flatMap encPo).map .fv))] := by
  subst hj
  obtain ⟨cs1, h1, h2, h3⟩ := del_cells encPo_len l i hi
  have hclr : ∀ zs : List AV, zs.length = 5 → ∃ cs2, setC cs1 ((0 + (i + (l.length - (i + 1)))) * 5) ((List.replicate (l.length - (i + (l.length - (i + 1)))) zs).flatten) = some cs2 ∧ cs2.take ((i + (l.length - (i + 1))) * 5) = (((l.eraseIdx i).flatMap encPo).map AV.fv) := fun zs hz => by
    have h6 := setC_mk (cs := cs1) (off := (0 + (i + (l.length - (i + 1)))) * 5) (us := (List.replicate (l.length - (i + (l.length - (i + 1)))) zs).flatten) (by
      rw [h2, List.length_flatten, List.map_replicate, List.sum_replicate_nat, hz]
      omega)
    refine ⟨_, h6, ?_⟩
    have := clr_cells h6
    rw [Nat.zero_add] at this
    rw [← h3, ← this, Nat.zero_add]
  obtain ⟨cs2, h4, h5⟩ := hclr [zi, zi, zi, zi, zi] rfl
  generalize hcs : (l.flatMap encPo).map AV.fv = cs at h1
  have hones : onesB cs = true := by subst hcs; exact onesB_map _
  refine FunO.bodyL tbl_ok Tryz.func90 rfl (by kernel_rfl) rfl rfl rfl ?_
  repeat' (first | refine X.loc ?_ | (refine X.sl3 ?_) | (apply X.appB; (· exact aR); (· exact hones); (· omega); (· exact h1); (· exact aE)) | (apply X.clr; (· exact aR); (· exact h4); (· exact aE)) | refine nx ?_ | refine X.cdT ?_ | refine X.cdF ?_ | refine cb ?_ ?_ | (refine cc ?_ ?_ <;> intro hcond) | refine rb ?_ | refine nd ?_ | refine dk ?_ | fail)
  refine .ofL (s' := ⟨[(6, .osl 7)], [(7, .row 69 5 (l.length - 1) (((l.eraseIdx i).flatMap encPo).map .fv))]⟩) (.inl rfl) ?_ rfl rfl ⟨⟨_, rfl, fun _ _ _ _ h => h⟩, trivial⟩
  refine St.to [(7, .cut 1000 (i + (l.length - (i + 1))))] [] rfl rfl ⟨⟨_, rfl, .cut rfl⟩, trivial⟩ ⟨?_, trivial⟩
  exact .cut rfl rfl (by omega) (by omega) h5 (.maps rfl)
theorem deleteAc_T (l : List Ac) (i : Nat) (j : Int) (hj : j = ((i + 1 : Nat) : Int)) (hi : i < l.length) (hl : l.length * 72 ≤ 140737488355328) : FunO Tryz.prog 92 [.osl 1000, .fv (.int .i64 (i : Int)), .fv (.int .i64 j)] [(1000, .row 38 9 l.length ((l.flatMap encAc).map .fv))] (.osl 7) [(7, .row 38 9 (l.length - 1) (((l.eraseIdx i).flatMap encAc).map .fv))] := by
  subst hj
  obtain ⟨cs1, h1, h2, h3⟩ := del_cells encAc_len l i hi
  have hclr : ∀ zs : List AV, zs.length = 9 → ∃ cs2, setC cs1 ((0 + (i + (l.length - (i + 1)))) * 9) ((List.replicate (l.length - (i + (l.length - (i + 1)))) zs).flatten) = some cs2 ∧ cs2.take ((i + (l.length - (i + 1))) * 9) = (((l.eraseIdx i).flatMap encAc).map AV.fv) := fun zs hz => by
    have h6 := setC_mk (cs := cs1) (off := (0 + (i + (l.length - (i + 1)))) * 9) (us := (List.replicate (l.length - (i + (l.length - (i + 1)))) zs).flatten) (by
      rw [h2, List.length_flatten, List.map_replicate, List.sum_replicate_nat, hz]
      omega)
    refine ⟨_, h6, ?_⟩
    have := clr_cells h6
    rw [Nat.zero_add] at this
    rw [← h3, ← this, Nat.zero_add]
  obtain ⟨cs2, h4, h5⟩ := hclr [zi, zi, zb, zi, zi, zi, zi, zi, zb] rfl
  generalize hcs : (l.flatMap encAc).map AV.fv = cs at h1
  have hones : onesB cs = true := by subst hcs; exact onesB_map _
  refine FunO.bodyL tbl_ok Tryz.func92 rfl (by kernel_rfl) rfl rfl rfl ?_
  repeat' (first | refine X.loc ?_ | (refine X.sl3 ?_) | (apply X.appB; (· exact aR); (· exact hones); (· omega); (· exact h1); (· exact aE)) | (apply X.clr; (· exact aR); (· exact h4); (· exact aE)) | refine nx ?_ | refine X.cdT ?_ | refine X.cdF ?_ | refine cb ?_ ?_ | (refine cc ?_ ?_ <;> intro hcond) | refine rb ?_ | refine nd ?_ | refine dk ?_ | fail)
  refine .ofL (s' := ⟨[(6, .osl 7)], [(7, .row 38 9 (l.length - 1) (((l.eraseIdx i).flatMap encAc).map .fv))]⟩) (.inl rfl) ?_ rfl rfl ⟨⟨_, rfl, fun _ _ _ _ h => h⟩, trivial⟩
  refine St.to [(7, .cut 1000 (i + (l.length - (i + 1))))] [] rfl rfl ⟨⟨_, rfl, .cut rfl⟩, trivial⟩ ⟨?_, trivial⟩
  exact .cut rfl rfl (by omega) (by omega) h5 (.maps rfl)
theorem is_T (a b : Int) : Fun Tryz.prog 128 [.fv (.int .i64 a), .fv (.int .i64 b)] (.agg ((encMx ⟨a, 65535, b⟩).map .fv)) := by
  refine Fun.body tbl_ok Tryz.func128 rfl (by kernel_rfl) rfl rfl rfl ?_
  repeat' (first | refine X.loc ?_ | refine nx ?_ | refine cb ?_ ?_ | (refine cc ?_ ?_ <;> intro hcond) | refine rb ?_ | refine nd ?_ | refine dk ?_ | fail)
  exact .fun (.inl rfl) rfl rfl
theorem to_T (a : Int) : Fun Tryz.prog 129 [.fv (.int .i64 a)] (.agg ((encDx ⟨4, 0, a⟩).map .fv)) := by
  refine Fun.body tbl_ok Tryz.func129 rfl (by kernel_rfl) rfl rfl rfl ?_
  repeat' (first | refine X.loc ?_ | refine nx ?_ | refine cb ?_ ?_ | (refine cc ?_ ?_ <;> intro hcond) | refine rb ?_ | refine nd ?_ | refine dk ?_ | fail)
  exact .fun (.inl rfl) rfl rfl
theorem put_T (a b : Int) : Fun Tryz.prog 131 [.fv (.int .i64 a), .fv (.int .i64 b)] (.agg ((encDx ⟨1, a, b⟩).map .fv)) := by
  refine Fun.body tbl_ok Tryz.func131 rfl (by kernel_rfl) rfl rfl rfl ?_
  repeat' (first | refine X.loc ?_ | refine nx ?_ | refine cb ?_ ?_ | (refine cc ?_ ?_ <;> intro hcond) | refine rb ?_ | refine nd ?_ | refine dk ?_ | fail)
  exact .fun (.inl rfl) rfl rfl
theorem copied_T (a b : Int) : Fun Tryz.prog 136 [.fv (.int .i64 a), .fv (.int .i64 b)] (.agg ((encDx ⟨2, a, b⟩).map .fv)) := by
  refine Fun.body tbl_ok Tryz.func136 rfl (by kernel_rfl) rfl rfl rfl ?_
  repeat' (first | refine X.loc ?_ | refine nx ?_ | refine cb ?_ ?_ | (refine cc ?_ ?_ <;> intro hcond) | refine rb ?_ | refine nd ?_ | refine dk ?_ | fail)
  exact .fun (.inl rfl) rfl rfl
def mkC (c : Cf) (ch : Int) (l : AV) : List AV := (encCf c).map .fv ++ [.fv (.int .i64 ch), l]
def mkB (c : Cf) (ch : Int) (g : Nat) : OB := .box 153 (mkC c ch (.osl g))
def flR (L : List Fl) : OB := .row 108 4 L.length ((L.flatMap encFl).map .fv)
theorem add_T (c : Cf) (ch : Int) (L : List Fl) (f : Fl) (hL : (L.length + 1) * 64 ≤ 140737488355328) : FunO Tryz.prog 127 [.optr 1000 0, .fv (.int .i64 f.table), .fv (.int .i64 f.prio), .fv (slOf encMx f.ms), .fv (slOf encDx f.ds)] [(1000, mkB c ch 1001), (1001, flR L)] (.tup []) [(1000, mkB c ch 7), (7, flR (L ++ [f]))] := by
  refine FunO.bodyL tbl_ok Tryz.func127 rfl (by kernel_rfl) rfl rfl rfl ?_
  unfold mkB flR mkC
  repeat' (first | refine X.loc ?_ | refine nx ?_ | refine X.cdT ?_ | refine X.cdF ?_ | refine cb ?_ ?_ | (refine cc ?_ ?_ <;> intro hcond) | refine rb ?_ | refine nd ?_ | refine dk ?_ | fail)
  refine .ofL (s' := ⟨[], [(1000, .box 153 ((encCf c).map .fv ++ [.fv (.int .i64 ch), .osl 7])), (7, .row 108 4 (L ++ [f]).length (((L ++ [f]).flatMap encFl).map .fv))]⟩) (by first | exact .inl rfl | exact .inr rfl) ?_ rfl rfl (by repeat' (first | exact trivial | refine ⟨⟨_, rfl, fun _ _ _ _ h => h⟩, ?_⟩))
  refine St.to [(7, .id 21)] [] rfl rfl ?_ ?_ <;> (repeat' (first | exact tA | refine t1 ?_ | exact tB | refine t2 ?_ ?_ | refine t3 ?_ | refine t4 ?_ ?_ | refine .ofEq ?_ | refine OB.To.cut rfl rfl ?_ ?_ ?_ ?_ | refine OB.To.box rfl rfl ?_ | refine ⟨⟨_, rfl, ?_⟩, ?_⟩ | refine ⟨?_, ?_⟩ | fail))
  all_goals first | omega | (simp; done) | (simp only [List.flatMap_append, List.map_append]; rfl)
theorem size_nil (s : ByteArray) : (!(s.toList == (⟨#[]⟩ : ByteArray).toList)) = decide (s.size ≠ 0) := by
  have h1 : (⟨#[]⟩ : ByteArray).toList = [] := by rw [ByteArray.toList_eq]
  have h2 := toList_isEmpty s
  rw [h1]
  cases h : s.toList with
  | nil => rw [h] at h2; simp at h2; simp [h2]
  | cons a l => rw [h] at h2; simp at h2; simp [h2]
theorem frameFault_b (f : Fr) : frameFault f = if (decide (f.kind < 1) || decide (f.kind > 3)) = true then 3
    else if (!word f.dst || !word f.src || !word f.ipSrc || !word f.ipDst || !word f.port || decide (f.ttl < 0) || decide (f.ttl > 255)) = true then 2
    else if decide ((f.body.size : Int) > 40) = true then 1
    else if (f.kind != 3 && (f.ttl != 0 || f.port != 0 || !f.body.toList == (⟨#[]⟩ : ByteArray).toList)) = true then 4 else 0 := by
  unfold frameFault
  rw [size_nil]
  have e1 : (f.kind < 1 ∨ 3 < f.kind) = ((decide (f.kind < 1) || decide (f.kind > 3)) = true) := by simp
  have e2 : (word f.dst = false ∨ word f.src = false ∨ word f.ipSrc = false ∨ word f.ipDst = false ∨ word f.port = false ∨ f.ttl < 0 ∨ 255 < f.ttl) = ((!word f.dst || !word f.src || !word f.ipSrc || !word f.ipDst || !word f.port || decide (f.ttl < 0) || decide (f.ttl > 255)) = true) := by simp [or_assoc]
  have e3 : (40 < f.body.size) = (decide ((f.body.size : Int) > 40) = true) := by simp; omega
  have e4 : (f.kind ≠ 3 ∧ (f.ttl ≠ 0 ∨ f.port ≠ 0 ∨ f.body.size ≠ 0)) = ((f.kind != 3 && (f.ttl != 0 || f.port != 0 || decide (f.body.size ≠ 0))) = true) := by simp [or_assoc]
  simp only [e1, e2, e3, e4]
set_option maxHeartbeats 2000000 in
theorem wireCheck_T (f : Fr) : Fun Tryz.prog 84 [.agg ((encFr f).map .fv)] (.fv (.int .i64 (frameFault f))) := by
  have hb := frameFault_b f
  refine Fun.body tbl_ok Tryz.func84 rfl (by kernel_rfl) rfl rfl rfl ?_
  repeat' (first | (apply X.loE; (· exact aR); (· first | exact .callL rfl rfl rfl (wword_T _) rfl | exact bl (wword_T _))) | refine X.loc ?_ | refine nx ?_ | refine cb ?_ ?_ | (refine cc ?_ ?_ <;> intro hcond) | (apply X.gsE; (· exact aR); (· exact aV); (· exact aW); (· intro hc; first | exact .callG rfl rfl rfl (wword_T _) rfl | exact bg (wword_T _)); (· exact aR)) | refine rb ?_ | refine nd ?_ | refine dk ?_ | fail)
  all_goals
    refine .f1 (.inl rfl) rfl ?_
    rw [hb]
    simp only [*]
    rfl
def l5 (f : Fr) : Nat → Int
  | 0 => f.dst
  | 1 => f.src
  | 2 => f.ipSrc
  | 3 => f.ipDst
  | _ => f.port
def w5 (f : Fr) (k : Nat) : Bool := ([f.dst, f.src, f.ipSrc, f.ipDst, f.port].drop k).all word
theorem encB_len (u : UInt8) : (encB u).length = 1 := rfl
theorem u8_wrap (n : Nat) : IntKind.u8.wrap (n : Int) = ((UInt8.ofNat n).toNat : Int) := by
  simp [IntKind.wrap, IntKind.bits, IntKind.signed]
section
variable {T : Tbl} {ρ : Operand → AV} {H : Own} {d : Nat}
theorem Eff.convB {s t : Nat} {x : Operand} {k'' : IntKind} {n : Nat} (h1 : ρ x = .fv (.int .i64 (n : Int))) (h2 : lk T.kind t = some .u8) (h3 : lk T.kind s = some k'') : Eff T ρ H d (.convert s t x) (.fv (.int .u8 ((UInt8.ofNat n).toNat : Int))) [] := by
  have := Eff.conv (T := T) (H := H) (d := d) h1 h2 h3
  rwa [u8_wrap] at this
theorem Eff.conv8 {s t : Nat} {x : Operand} {k'' : IntKind} {u : UInt8} (h1 : ρ x = .fv (.int .u8 (u.toNat : Int))) (h2 : lk T.kind t = some .i64) (h3 : lk T.kind s = some k'') : Eff T ρ H d (.convert s t x) (.fv (.int .i64 (u.toNat : Int))) [] := by
  have := Eff.conv (T := T) (H := H) (d := d) h1 h2 h3
  have hu := u.toNat_lt
  rwa [I64.wrap (by omega) (by omega)] at this
theorem Eff.shrB {t u : Nat} {x y : Operand} {k' : IntKind} {n : Nat} (h1 : ρ x = .fv (.int .i64 (n : Int))) (h2 : ρ y = .fv (.int k' 8)) : Eff T ρ H d (.binOp .shr t x y u) (.fv (.int .i64 ((n / 256 : Nat) : Int))) [] := by
  have := Eff.shr (T := T) (H := H) (d := d) (t := t) (u := u) h1 h2 (by omega) (by decide)
  rwa [show ((n : Int) / 2 ^ (8 : Int).toNat) = ((n / 256 : Nat) : Int) by rw [Int.natCast_ediv]; rfl] at this
theorem Eff.shrW {t u : Nat} {x y : Operand} {k' : IntKind} {n : Nat} (h1 : ρ x = .fv (.int .i64 (n : Int))) (h2 : ρ y = .fv (.int k' 16)) : Eff T ρ H d (.binOp .shr t x y u) (.fv (.int .i64 ((n / 65536 : Nat) : Int))) [] := by
  have := Eff.shr (T := T) (H := H) (d := d) (t := t) (u := u) h1 h2 (by omega) (by decide)
  rwa [show ((n : Int) / 2 ^ (16 : Int).toNat) = ((n / 65536 : Nat) : Int) by rw [Int.natCast_ediv]; rfl] at this
theorem Eff.shlB {t u : Nat} {x y : Operand} {k' : IntKind} {n : Nat} (h1 : ρ x = .fv (.int .i64 (n : Int))) (h2 : ρ y = .fv (.int k' 8)) (h3 : n ≤ 65535) : Eff T ρ H d (.binOp .shl t x y u) (.fv (.int .i64 ((n * 256 : Nat) : Int))) [] := by
  have := Eff.shl (T := T) (H := H) (d := d) (t := t) (u := u) h1 h2 (by omega) (by decide)
  have e : ((n : Int) * 2 ^ (8 : Int).toNat) = ((n * 256 : Nat) : Int) := by rw [Int.natCast_mul]; rfl
  rwa [e, I64.wrap (by omega) (by omega)] at this
theorem Eff.andW {t u : Nat} {x : Operand} {n : Nat} (h1 : ρ x = .fv (.int .i64 (n : Int))) (h2 : ρ (.const (.int .i64 65535)) = .fv (.int .i64 65535)) (h3 : n ≤ 65280000) : Eff T ρ H d (.binOp .and t x (.const (.int .i64 65535)) u) (.fv (.int .i64 ((n % 65536 : Nat) : Int))) [] := by
  have := Eff.bin (T := T) (H := H) (d := d) (op := .and) (t := t) (u := u) h1 h2 rfl
  rwa [bits_and_word n h3, show (n : Int) % 65536 = ((n % 65536 : Nat) : Int) by omega] at this
theorem Eff.xorW {t u : Nat} {x : Operand} {n : Nat} (h1 : ρ x = .fv (.int .i64 (n : Int))) (h2 : ρ (.const (.int .i64 65535)) = .fv (.int .i64 65535)) (h3 : n ≤ 65535) : Eff T ρ H d (.binOp .xor t x (.const (.int .i64 65535)) u) (.fv (.int .i64 ((65535 - n : Nat) : Int))) [] := by
  have := Eff.bin (T := T) (H := H) (d := d) (op := .xor) (t := t) (u := u) h1 h2 rfl
  rwa [bits_xor_word n h3, show 65535 - (n : Int) = ((65535 - n : Nat) : Int) by omega] at this
end
theorem bytes_app (bs cs : List UInt8) : ((bs ++ cs).flatMap encB).map AV.fv = (bs.flatMap encB).map .fv ++ (cs.flatMap encB).map .fv := by simp
theorem two_T (bs : List UInt8) (k n : Nat) (hk : k = bs.length) (hn : n ≤ 65535) (hl : k ≤ 100000) : FunO Tryz.prog 85 [.osl 1000, .fv (.int .i64 (n : Int))] [(1000, .row 5 1 k ((bs.flatMap encB).map .fv))] (.osl 7) [(7, .row 5 1 (k + 2) (((bs ++ be n).flatMap encB).map .fv))] := by
  refine FunO.body tbl_ok Tryz.func85 rfl (by kernel_rfl) rfl rfl rfl ?_
  repeat' (first | (apply X.loE; (· exact aR); (· first | (exact .eff (.shrB rfl rfl)) | (exact .eff (.convB rfl rfl rfl)))) | refine X.loc ?_ | refine nx ?_ | refine cb ?_ ?_ | (refine cc ?_ ?_ <;> intro hcond) | (apply X.gsE; (· exact aR); (· exact aV); (· exact aW); (· intro hc; first | (exact .eff (.shrB rfl rfl)) | (exact .eff (.convB rfl rfl rfl))); (· exact aR)) | refine rb ?_ | refine nd ?_ | refine dk ?_ | fail)
  refine .ofO (s' := ⟨[(4, .osl 7)], [(7, .row 5 1 (k + 2) (((bs ++ be n).flatMap encB).map .fv))]⟩) (.inl rfl) ?_ rfl rfl rfl
  refine St.to [(7, .id 12)] [] rfl rfl ?_ ?_ <;> (repeat' (first | exact tA | refine t1 ?_ | exact tB | refine t2 ?_ ?_ | refine t3 ?_ | refine t4 ?_ ?_ | refine .ofEq ?_ | refine OB.To.cut rfl rfl ?_ ?_ ?_ ?_ | refine OB.To.box rfl rfl ?_ | refine ⟨⟨_, rfl, ?_⟩, ?_⟩ | refine ⟨?_, ?_⟩ | fail))
  all_goals (rw [bytes_app]; rfl)
theorem Eff.idxB8 {T : Tbl} {ρ : Operand → AV} {H : Own} {d t : Nat} {x y : Operand} {l : List UInt8} {k e b i : Nat} {kk : IntKind} {u : UInt8} (hk : k = l.length) (h1 : ρ x = .fv (.sl (l.flatMap encB) k)) (h2 : ρ y = .fv (.int kk i)) (h3 : lk T.sli t = some (e, 1, b)) (hu : l[i]? = some u) : Eff T ρ H d (.indexAddr t x y) (.fptr (encB u)) [] := by
  subst hk
  exact Eff.idxS (enc := encB) h1 h2 h3 encB_len hu
set_option maxHeartbeats 2000000 in
theorem sum_T (bs : List UInt8) (k : Nat) (hk : k = bs.length) (hl : k ≤ 1000) : Fun Tryz.prog 86 [.fv (.sl (bs.flatMap encB) k)] (.fv (.int .i64 (sumOf bs : Nat))) := by
  refine Fun.body tbl_ok Tryz.func86 rfl (by kernel_rfl) rfl rfl rfl ?_
  repeat' (first | refine X.loc ?_ | refine nx ?_ | refine cb ?_ ?_ | (refine cc ?_ ?_ <;> intro hcond) | refine rb ?_ | refine nd ?_ | refine dk ?_ | fail)
  refine WP.loop (ι := Nat) (fun j => ⟨[(6, .fv (.sl (bs.flatMap encB) k)), (7, .fv (.int .i64 k)), (8, .fv (.int .i64 j)), (3, .fv (.int .i64 (raw true (bs.take j) : Nat)))], []⟩) (fun j => j ≤ k) (fun j => k - j) 0 (by omega) ?_ ?_
  · exact lq
  rintro j hj
  try dsimp only
  have hr := raw_le true (bs.take j)
  have hrl : (bs.take j).length ≤ 1000 := by simp; omega
  by_cases hlt : j < k
  case pos =>
    obtain ⟨u, hu⟩ : ∃ u, bs[j]? = some u := ⟨_, List.getElem?_eq_getElem (by omega)⟩
    have hat := raw_take hu
    have hu8 := u.toNat_lt
    repeat' (first | (apply X.loE; (· exact aR); (· first | (exact .eff (.idxB8 hk rfl rfl rfl hu)) | (exact .eff (.conv8 rfl rfl rfl)) | (exact .eff (.shlB rfl rfl (by omega))))) | refine X.loc ?_ | refine nx ?_ | refine X.cdT ?_ | refine X.cdF ?_ | refine cb ?_ ?_ | (refine cc ?_ ?_ <;> intro hcond) | (apply X.gsE; (· exact aR); (· exact aV); (· exact aW); (· intro hc; first | (exact .eff (.idxB8 hk rfl rfl rfl hu)) | (exact .eff (.conv8 rfl rfl rfl)) | (exact .eff (.shlB rfl rfl (by omega)))); (· exact aR)) | refine rb ?_ | refine nd ?_ | refine dk ?_ | fail)
    · refine ⟨j + 1, by omega, by omega, ?_⟩
      refine St.le_of ?_ ?_ <;> (repeat' (first | exact trivial | refine ⟨⟨_, rfl, .refl _⟩, ?_⟩ | refine ⟨⟨_, rfl, .any _⟩, ?_⟩ | refine ⟨⟨_, rfl, .of_eq ?_⟩, ?_⟩ | refine ⟨⟨_, rfl, fun _ _ _ _ h => h⟩, ?_⟩ | fail))
      all_goals
        have h2 : j % 2 = 0 := by simp at hcond; omega
        rw [if_pos h2] at hat
        rw [hat]
        congr 2
        omega
    · refine ⟨j + 1, by omega, by omega, ?_⟩
      refine St.le_of ?_ ?_ <;> (repeat' (first | exact trivial | refine ⟨⟨_, rfl, .refl _⟩, ?_⟩ | refine ⟨⟨_, rfl, .any _⟩, ?_⟩ | refine ⟨⟨_, rfl, .of_eq ?_⟩, ?_⟩ | refine ⟨⟨_, rfl, fun _ _ _ _ h => h⟩, ?_⟩ | fail))
      all_goals
        have h2 : ¬ j % 2 = 0 := by simp at hcond; omega
        rw [if_neg h2] at hat
        rw [hat]
        congr 2
  case neg =>
    have hjk : j = k := by omega
    subst hjk
    rw [List.take_of_length_le (by omega)] at hr ⊢
    repeat' (first | refine X.loc ?_ | refine nx ?_ | refine X.cdT ?_ | refine X.cdF ?_ | refine cb ?_ ?_ | (refine cc ?_ ?_ <;> intro hcond) | refine rb ?_ | refine nd ?_ | refine dk ?_ | fail)
    refine WP.loop (ι := Nat) (fun q => ⟨[(3, .fv (.int .i64 q))], []⟩) (fun q => q ≤ 65280000 ∧ csum q = csum (raw true bs)) (fun q => q) (raw true bs) ⟨by omega, rfl⟩ ?_ ?_
    · exact lq
    rintro q ⟨hq, hc⟩
    try dsimp only
    by_cases hg : 65535 < q
    case pos =>
      repeat' (first | (apply X.loE; (· exact aR); (· first | (exact .eff (.shrW rfl rfl)) | (exact .eff (.andW rfl rfl (by omega))))) | refine X.loc ?_ | refine nx ?_ | refine X.cdT ?_ | refine X.cdF ?_ | refine cb ?_ ?_ | (refine cc ?_ ?_ <;> intro hcond) | (apply X.gsE; (· exact aR); (· exact aV); (· exact aW); (· intro hc; first | (exact .eff (.shrW rfl rfl)) | (exact .eff (.andW rfl rfl (by omega)))); (· exact aR)) | refine rb ?_ | refine nd ?_ | refine dk ?_ | fail)
      refine ⟨q / 65536 + q % 65536, ⟨by omega, by rw [csum_fold q hg]; exact hc⟩, by omega, ?_⟩
      refine St.le_of ?_ ?_ <;> (repeat' (first | exact trivial | refine ⟨⟨_, rfl, .refl _⟩, ?_⟩ | refine ⟨⟨_, rfl, .any _⟩, ?_⟩ | refine ⟨⟨_, rfl, .of_eq ?_⟩, ?_⟩ | refine ⟨⟨_, rfl, fun _ _ _ _ h => h⟩, ?_⟩ | fail))
      all_goals (congr 2)
    case neg =>
      repeat' (first | (apply X.loE; (· exact aR); (· first | (exact .eff (.xorW rfl rfl (by omega))))) | refine X.loc ?_ | refine nx ?_ | refine X.cdT ?_ | refine X.cdF ?_ | refine cb ?_ ?_ | (refine cc ?_ ?_ <;> intro hcond) | (apply X.gsE; (· exact aR); (· exact aV); (· exact aW); (· intro hc; first | (exact .eff (.xorW rfl rfl (by omega)))); (· exact aR)) | refine rb ?_ | refine nd ?_ | refine dk ?_ | fail)
      refine .f1 (.inl rfl) rfl ?_
      rw [sumOf, ← hc, csum_small (by omega)]
def headF (f : Fr) : List UInt8 := be f.dst.toNat ++ be f.src.toNat ++ [UInt8.ofNat f.kind.toNat, UInt8.ofNat f.ttl.toNat] ++ be f.ipSrc.toNat ++ be f.ipDst.toNat ++ be f.port.toNat ++ [0, UInt8.ofNat f.body.size] ++ f.body.data.toList
def bytesF (f : Fr) : List UInt8 := headF f ++ be (sumOf (headF f))
def encF (f : Fr) : List UInt8 := if frameFault f ≠ 0 then [] else bytesF f
theorem headF_len (f : Fr) : (headF f).length = 14 + f.body.size := by
  simp only [headF, be, List.length_append, List.length_cons, List.length_nil, Array.length_toList]
  show _ = 14 + f.body.data.size
  omega
theorem bytesF_len (f : Fr) : (bytesF f).length = 16 + f.body.size := by
  rw [bytesF, List.length_append, headF_len]
  simp only [be, List.length_cons, List.length_nil]
  omega
theorem fr_nat {f : Fr} (h : FrMay f) : ∃ n0 n1 n2 n3 n4 n5 n6 : Nat, f = ⟨n0, n1, n2, n3, n4, n5, n6, f.body⟩ ∧ n0 ≤ 65535 ∧ n1 ≤ 65535 ∧ n2 ≤ 255 ∧ n3 ≤ 65535 ∧ n4 ≤ 65535 ∧ n5 ≤ 255 ∧ n6 ≤ 65535 := by
  obtain ⟨d, s, k, is, id, t, p, b⟩ := f
  obtain ⟨h0, h1, h2, h3, h4, h5, h6, h7⟩ := h
  refine ⟨d.toNat, s.toNat, k.toNat, is.toNat, id.toNat, t.toNat, p.toNat, ?_, ?_, ?_, ?_, ?_, ?_, ?_, ?_⟩
  · dsimp only at *
    rw [Int.toNat_of_nonneg h0.1, Int.toNat_of_nonneg h1.1, Int.toNat_of_nonneg (show 0 ≤ k by omega), Int.toNat_of_nonneg h3.1, Int.toNat_of_nonneg h4.1, Int.toNat_of_nonneg h5.1, Int.toNat_of_nonneg h6.1]
  all_goals (dsimp only at *; omega)
set_option maxHeartbeats 4000000 in
theorem encode_T (f : Fr) : FunO Tryz.prog 55 [.agg ((encFr f).map .fv)] [] (.tup [.osl 7, .fv (.int .i64 (frameFault f))]) [(7, .row 5 1 (encF f).length (((encF f).flatMap encB).map .fv))] := by
  have hck := wireCheck_T f
  by_cases hff : frameFault f = 0
  case neg =>
    have he : encF f = [] := if_pos hff
    rw [he]
    refine FunO.body tbl_ok Tryz.func55 rfl (by kernel_rfl) rfl rfl rfl ?_
    repeat' (first | (apply X.loE; (· exact aR); (· first | exact .callL rfl rfl rfl (hck) rfl | exact bl (hck))) | refine X.loc ?_ | refine nx ?_ | refine cb ?_ ?_ | (refine cc ?_ ?_ <;> intro hcond) | (apply X.gsE; (· exact aR); (· exact aV); (· exact aW); (· intro hc; first | exact .callG rfl rfl rfl (hck) rfl | exact bg (hck)); (· exact aR)) | refine rb ?_ | refine nd ?_ | refine dk ?_ | fail)
    · refine .ofO (s' := ⟨[(2, .osl 7), (3, .fv (.int .i64 (frameFault f)))], [(7, .row 5 1 0 [])]⟩) (.inl rfl) ?_ rfl rfl rfl
      exact tq [(7, .nil)] []
    all_goals
      exfalso
      exact hff (by simpa using hcond)
  case pos =>
    have he : encF f = bytesF f := if_neg (by omega)
    have hlen := bytesF_len f
    rw [he]
    have hm := frMay hff
    have hb := hm.body
    rw [hff] at hck ⊢
    obtain ⟨n0, n1, n2, n3, n4, n5, n6, hfe, b0, b1, b2, b3, b4, b5, b6⟩ := fr_nat hm
    generalize f.body = s at hfe hb hlen
    subst hfe
    have hhl := headF_len ⟨n0, n1, n2, n3, n4, n5, n6, s⟩
    have hb2 : (Fr.body ⟨n0, n1, n2, n3, n4, n5, n6, s⟩).size ≤ 40 := hb
    have hs := sumOf_le (headF ⟨n0, n1, n2, n3, n4, n5, n6, s⟩)
    have hsum := sum_T (headF ⟨n0, n1, n2, n3, n4, n5, n6, s⟩) (14 + s.size) hhl.symm (by omega)
    have hbf : bytesF ⟨n0, n1, n2, n3, n4, n5, n6, s⟩ = headF ⟨n0, n1, n2, n3, n4, n5, n6, s⟩ ++ be (sumOf (headF ⟨n0, n1, n2, n3, n4, n5, n6, s⟩)) := rfl
    generalize hq : sumOf (headF ⟨n0, n1, n2, n3, n4, n5, n6, s⟩) = q at hs hsum hbf
    rw [hbf] at hlen ⊢
    refine FunO.body tbl_ok Tryz.func55 rfl (by kernel_rfl) rfl rfl rfl ?_
    repeat' (first | (apply X.loE; (· exact aR); (· first | (exact .eff (.convB rfl rfl rfl)) | exact .callL rfl rfl rfl (by first | exact hck | exact hsum) rfl | exact bl (hck) | exact bl (hsum))) | refine X.loc ?_ | refine nx ?_ | refine X.cdT ?_ | refine X.cdF ?_ | refine cb ?_ ?_ | (refine cc ?_ ?_ <;> intro hcond) | (apply X.gsE; (· exact aR); (· exact aV); (· exact aW); (· intro hc; first | (exact .eff (.convB rfl rfl rfl)) | exact .callG rfl rfl rfl (by first | exact hck | exact hsum) rfl | exact bg (hck) | exact bg (hsum)); (· exact aR)) | refine rb ?_ | refine X.c0 (two_T [] 0 n0 rfl b0 (by omega)) ?_ | refine X.c0 (two_T (be n0) 2 n1 rfl b1 (by omega)) ?_ | refine X.c0 (two_T (be n0 ++ be n1 ++ [UInt8.ofNat n2, UInt8.ofNat n5]) 6 n3 rfl b3 (by omega)) ?_ | refine X.c0 (two_T (be n0 ++ be n1 ++ [UInt8.ofNat n2, UInt8.ofNat n5] ++ be n3) 8 n4 rfl b4 (by omega)) ?_ | refine X.c0 (two_T (be n0 ++ be n1 ++ [UInt8.ofNat n2, UInt8.ofNat n5] ++ be n3 ++ be n4) 10 n6 rfl b6 (by omega)) ?_ | refine X.c0 (two_T (headF ⟨n0, n1, n2, n3, n4, n5, n6, s⟩) (14 + s.size) q hhl.symm hs (by omega)) ?_ | refine nd ?_ | refine dk ?_ | fail)
    refine .ofO (s' := ⟨[(2, .osl 7), (3, .fv (.int .i64 0))], [(7, .row 5 1 (headF ⟨n0, n1, n2, n3, n4, n5, n6, s⟩ ++ be q).length (((headF ⟨n0, n1, n2, n3, n4, n5, n6, s⟩ ++ be q).flatMap encB).map .fv))]⟩) (.inl rfl) ?_ rfl rfl rfl
    refine St.to [(7, .id 49)] [] rfl rfl ?_ ?_ <;> (repeat' (first | exact tA | refine t1 ?_ | exact tB | refine t2 ?_ ?_ | refine t3 ?_ | refine t4 ?_ ?_ | refine .ofEq ?_ | refine OB.To.cut rfl rfl ?_ ?_ ?_ ?_ | refine OB.To.box rfl rfl ?_ | refine ⟨⟨_, rfl, ?_⟩, ?_⟩ | refine ⟨?_, ?_⟩ | fail))
    all_goals (rw [hlen]; omega)
theorem encodeF_T (f : Fr) : Fun Tryz.prog 55 [.agg ((encFr f).map .fv)] (.tup [.fv (.sl ((encF f).flatMap encB) (encF f).length), .fv (.int .i64 (frameFault f))]) :=
  FunO.froz [7] (encode_T f) (.tup (.cons (.frz rfl rfl rfl) (.cons (.le (.refl _) rfl) .nil)))
def wrapFault (n t : Int) (f : Fr) : Int := if ¬ (word n = true ∧ word t = true) then 2 else frameFault f
def wrapR (n t : Int) (f : Fr) : List UInt8 := if wrapFault n t f ≠ 0 then [] else [100, 121] ++ be n.toNat ++ be t.toNat ++ bytesF f
theorem nor_words {n t : Int} (h : (!word n || !word t) = true) : ¬ (word n = true ∧ word t = true) := by
  intro h2
  simp [h2.1, h2.2] at h
theorem and_words {n t : Int} (h : (!word n || !word t) = false) : word n = true ∧ word t = true := by
  simpa using h
set_option maxHeartbeats 4000000 in
theorem wrap0_T (n t : Int) (f : Fr) : FunO Tryz.prog 141 [.fv (.int .i64 n), .fv (.int .i64 t), .agg ((encFr f).map .fv)] [] (.tup [.osl 7, .fv (.int .i64 (wrapFault n t f))]) [(7, .row 5 1 (wrapR n t f).length (((wrapR n t f).flatMap encB).map .fv))] := by
  have h1 := wword_T n
  have h2 := wword_T t
  have h3 := encodeF_T f
  have hbl := bytesF_len f
  refine FunO.body tbl_ok Tryz.func141 rfl (by kernel_rfl) rfl rfl rfl ?_
  by_cases hw : wrapFault n t f = 0
  case neg =>
    have he : wrapR n t f = [] := if_pos hw
    rw [he]
    repeat' (first | (apply X.loE; (· exact aR); (· first | exact .callL rfl rfl rfl (by first | exact h1 | exact h2 | exact h3) rfl | exact bl (h1) | exact bl (h2) | exact bl (h3))) | refine X.loc ?_ | refine nx ?_ | refine cb ?_ ?_ | (refine cc ?_ ?_ <;> intro hcond) | (apply X.gsE; (· exact aR); (· exact aV); (· exact aW); (· intro hc; first | exact .callG rfl rfl rfl (by first | exact h1 | exact h2 | exact h3) rfl | exact bg (h1) | exact bg (h2) | exact bg (h3)); (· exact aR)) | refine rb ?_ | refine nd ?_ | refine dk ?_ | fail)
    · refine .ofO (s' := ⟨[(6, .osl 7), (7, .fv (.int .i64 (wrapFault n t f)))], [(7, .row 5 1 0 [])]⟩) (.inl rfl) ?_ rfl rfl rfl
      refine St.to [(7, .nil)] [] rfl rfl ?_ ?_ <;> (repeat' (first | exact tA | refine t1 ?_ | exact tB | refine t2 ?_ ?_ | refine t3 ?_ | refine t4 ?_ ?_ | refine .ofEq ?_ | refine OB.To.cut rfl rfl ?_ ?_ ?_ ?_ | refine OB.To.box rfl rfl ?_ | refine ⟨⟨_, rfl, ?_⟩, ?_⟩ | refine ⟨?_, ?_⟩ | fail))
      all_goals (rw [wrapFault, if_pos (nor_words hcond)])
    · refine .ofO (s' := ⟨[(6, .osl 7), (7, .fv (.int .i64 (wrapFault n t f)))], [(7, .row 5 1 0 [])]⟩) (.inl rfl) ?_ rfl rfl rfl
      refine St.to [(7, .nil)] [] rfl rfl ?_ ?_ <;> (repeat' (first | exact tA | refine t1 ?_ | exact tB | refine t2 ?_ ?_ | refine t3 ?_ | refine t4 ?_ ?_ | refine .ofEq ?_ | refine OB.To.cut rfl rfl ?_ ?_ ?_ ?_ | refine OB.To.box rfl rfl ?_ | refine ⟨⟨_, rfl, ?_⟩, ?_⟩ | refine ⟨?_, ?_⟩ | fail))
      rename_i hc1
      all_goals (rw [wrapFault, if_neg (not_not_intro (and_words hc1))])
    all_goals
      rename_i hc1
      exfalso
      rw [wrapFault, if_neg (not_not_intro (and_words hc1))] at hw
      exact hw (by simpa using hcond)
  case pos =>
    have hnt : word n = true ∧ word t = true := by
      by_cases h : word n = true ∧ word t = true
      · exact h
      · rw [wrapFault, if_pos h] at hw
        omega
    have hf : frameFault f = 0 := by rwa [wrapFault, if_neg (not_not_intro hnt)] at hw
    have he : encF f = bytesF f := if_neg (by omega)
    have he2 : wrapR n t f = [100, 121] ++ be n.toNat ++ be t.toNat ++ bytesF f := if_neg (by omega)
    have hm := (frMay hf).body
    rw [hnt.1] at h1
    rw [hnt.2] at h2
    rw [hf, he] at h3
    rw [hw, he2]
    obtain ⟨n1, rfl⟩ := Int.eq_ofNat_of_zero_le (word_iff.1 hnt.1).1
    obtain ⟨t1, rfl⟩ := Int.eq_ofNat_of_zero_le (word_iff.1 hnt.2).1
    have b1 := (word_iff.1 hnt.1).2
    have b2 := (word_iff.1 hnt.2).2
    generalize bytesF f = q at h3 hbl
    generalize hk : q.length = k at h3 hbl
    repeat' (first | (apply X.loE; (· exact aR); (· first | exact .callL rfl rfl rfl (by first | exact h1 | exact h2 | exact h3) rfl | exact bl (h1) | exact bl (h2) | exact bl (h3))) | refine X.loc ?_ | refine nx ?_ | refine X.cdT ?_ | refine X.cdF ?_ | refine cb ?_ ?_ | (refine cc ?_ ?_ <;> intro hcond) | (apply X.gsE; (· exact aR); (· exact aV); (· exact aW); (· intro hc; first | exact .callG rfl rfl rfl (by first | exact h1 | exact h2 | exact h3) rfl | exact bg (h1) | exact bg (h2) | exact bg (h3)); (· exact aR)) | refine rb ?_ | refine X.c0 (two_T [100, 121] 2 n1 rfl (by omega) (by omega)) ?_ | refine X.c0 (two_T ([100, 121] ++ be n1) 4 t1 rfl (by omega) (by omega)) ?_ | refine nd ?_ | refine dk ?_ | fail)
    refine .ofO (s' := ⟨[(6, .osl 7), (7, .fv (.int .i64 0))], [(7, .row 5 1 ([100, 121] ++ be n1 ++ be t1 ++ q).length ((([100, 121] ++ be n1 ++ be t1 ++ q).flatMap encB).map .fv))]⟩) (.inl rfl) ?_ rfl rfl rfl
    refine St.to [(7, .id 32)] [] rfl rfl ?_ ?_ <;> (repeat' (first | exact tA | refine t1 ?_ | exact tB | refine t2 ?_ ?_ | refine t3 ?_ | refine t4 ?_ ?_ | refine .ofEq ?_ | refine OB.To.cut rfl rfl ?_ ?_ ?_ ?_ | refine OB.To.box rfl rfl ?_ | refine ⟨⟨_, rfl, ?_⟩, ?_⟩ | refine ⟨?_, ?_⟩ | fail))
    · simp only [List.length_append, be, List.length_cons, List.length_nil, hk]
    · show List.map AV.fv [] ++ _ = _
      rfl
theorem wrap_T (n t : Int) (f : Fr) : Fun Tryz.prog 141 [.fv (.int .i64 n), .fv (.int .i64 t), .agg ((encFr f).map .fv)] (.tup [.fv (.sl ((wrapR n t f).flatMap encB) (wrapR n t f).length), .fv (.int .i64 (wrapFault n t f))]) :=
  FunO.froz [7] (wrap0_T n t f) (.tup (.cons (.frz rfl rfl rfl) (.cons (.le (.refl _) rfl) .nil)))
theorem bits_or_byte (n m : Nat) (h : n ≤ 65535) (hm : m < 256) : bits .or .i64 ((n * 256 : Nat) : Int) (m : Int) = ((256 * n + m : Nat) : Int) := by
  have e : n * 256 ||| m = 256 * n + m := by
    have := Nat.shiftLeft_add_eq_or_of_lt (a := n) (b := m) (i := 8) (by omega)
    rw [Nat.shiftLeft_eq, show 2 ^ 8 = 256 from rfl] at this
    omega
  show IntKind.i64.wrap ((BitVec.ofInt 64 ((n * 256 : Nat) : Int) ||| BitVec.ofInt 64 (m : Int)).toNat : Int) = _
  rw [BitVec.toNat_or, ofInt_i64 _ (by omega), ofInt_i64 _ (by omega), e, IntKind.wrap_i64]
  omega
def byteAt (bs : List UInt8) (i : Nat) : UInt8 := (bs[i]?).getD 0
def wat (bs : List UInt8) (i : Nat) : Nat := 256 * (byteAt bs i).toNat + (byteAt bs (i + 1)).toNat
theorem byteAt_get {bs : List UInt8} {i k : Nat} (hk : k = bs.length) (h : i < k) : bs[i]? = some (byteAt bs i) := by
  subst hk
  rw [byteAt, List.getElem?_eq_getElem h]
  rfl
theorem wat_le (bs : List UInt8) (i : Nat) : wat bs i ≤ 65535 := by
  have := (byteAt bs i).toNat_lt
  have := (byteAt bs (i + 1)).toNat_lt
  unfold wat
  omega
theorem flatMap_drop {α : Type} {enc : α → List FV} {s : Nat} (hs : ∀ x, (enc x).length = s) : ∀ (l : List α) (j : Nat), (l.flatMap enc).drop (j * s) = (l.drop j).flatMap enc
  | l, 0 => by simp
  | [], j + 1 => by simp
  | x :: l, j + 1 => by
    rw [List.flatMap_cons, List.drop_succ_cons, ← flatMap_drop hs l j, Nat.add_mul, Nat.one_mul, Nat.add_comm, ← List.drop_drop, List.drop_left' (hs x)]
theorem flatMap_take {α : Type} {enc : α → List FV} {s : Nat} (hs : ∀ x, (enc x).length = s) : ∀ (l : List α) (j : Nat), (l.flatMap enc).take (j * s) = (l.take j).flatMap enc
  | l, 0 => by simp
  | [], j + 1 => by simp
  | x :: l, j + 1 => by
    rw [List.flatMap_cons, List.take_succ_cons, List.flatMap_cons, ← flatMap_take hs l j, Nat.add_mul, Nat.one_mul, Nat.add_comm, List.take_append, List.take_of_length_le (by rw [hs]; omega), hs, Nat.add_sub_cancel_left]
section
variable {T : Tbl} {ρ : Operand → AV} {H : Own} {d : Nat}
theorem Eff.orB {t u : Nat} {x y : Operand} {n m : Nat} (h1 : ρ x = .fv (.int .i64 ((n * 256 : Nat) : Int))) (h2 : ρ y = .fv (.int .i64 (m : Int))) (h3 : n ≤ 65535) (h4 : m < 256) : Eff T ρ H d (.binOp .or t x y u) (.fv (.int .i64 ((256 * n + m : Nat) : Int))) [] := by
  have := Eff.bin (T := T) (H := H) (d := d) (op := .or) (t := t) (u := u) h1 h2 rfl
  rwa [bits_or_byte n m h3 h4] at this
theorem Eff.idxBI {t : Nat} {x y : Operand} {l : List UInt8} {k e b : Nat} (i : Nat) {kk : IntKind} {v : Int} (hk : k = l.length) (h1 : ρ x = .fv (.sl (l.flatMap encB) k)) (h2 : ρ y = .fv (.int kk v)) (h3 : lk T.sli t = some (e, 1, b)) (hv : v = (i : Int)) (hi : i < k) : Eff T ρ H d (.indexAddr t x y) (.fptr (encB (byteAt l i))) [] := by
  subst hv
  exact Eff.idxB8 hk h1 h2 h3 (byteAt_get hk hi)
theorem Eff.sliHB {t : Nat} {x hi : Operand} {l : List UInt8} {k e b : Nat} (h : Nat) {k' : IntKind} {v : Int} (hk : k = l.length) (h1 : ρ x = .fv (.sl (l.flatMap encB) k)) (h2 : ρ hi = .fv (.int k' v)) (h3 : lk T.sli t = some (e, 1, b)) (hv : v = (h : Int)) (hh : h ≤ k) : Eff T ρ H d (.slice t x none (some hi) none) (.fv (.sl ((l.take h).flatMap encB) h)) [] := by
  subst hv
  have hl : (l.flatMap encB).length = k * 1 := by rw [flatMap_len encB_len, hk]
  have := Eff.sliH (T := T) (H := H) (d := d) h1 h2 h3 hh hl
  rwa [flatMap_take encB_len] at this
theorem Eff.sliLB {t : Nat} {x lo : Operand} {bs : List UInt8} {k e b : Nat} (l : Nat) {k' : IntKind} {v : Int} (hk : k = bs.length) (h1 : ρ x = .fv (.sl (bs.flatMap encB) k)) (h2 : ρ lo = .fv (.int k' v)) (h3 : lk T.sli t = some (e, 1, b)) (hv : v = (l : Int)) (hh : l ≤ k) : Eff T ρ H d (.slice t x (some lo) none none) (.fv (.sl ((bs.drop l).flatMap encB) (k - l))) [] := by
  subst hv
  have hl : (bs.flatMap encB).length = k * 1 := by rw [flatMap_len encB_len, hk]
  have := Eff.sliL (T := T) (H := H) (d := d) h1 h2 h3 hh hl
  rwa [flatMap_drop encB_len] at this
theorem Eff.sliLHB {t : Nat} {x lo hi : Operand} {bs : List UInt8} {k e b : Nat} (l m : Nat) {k' k2 : IntKind} {v v2 : Int} (hk : k = bs.length) (h1 : ρ x = .fv (.sl (bs.flatMap encB) k)) (h2 : ρ lo = .fv (.int k' v)) (h2' : ρ hi = .fv (.int k2 v2)) (h3 : lk T.sli t = some (e, 1, b)) (hv : v = (l : Int)) (hv2 : v2 = ((l + m : Nat) : Int)) (hh2 : l + m ≤ k) :
    Eff T ρ H d (.slice t x (some lo) (some hi) none) (.fv (.sl (((bs.drop l).take m).flatMap encB) m)) [] := by
  subst hv
  subst hv2
  have hl : (bs.flatMap encB).length = k * 1 := by rw [flatMap_len encB_len, hk]
  have := Eff.sliLH (T := T) (H := H) (d := d) h1 h2 h2' h3 (Nat.le_add_right l m) hh2 hl
  rwa [Nat.add_sub_cancel_left, flatMap_drop encB_len, flatMap_take encB_len] at this
theorem Eff.b2sB {s t : Nat} {x : Operand} {bs : List UInt8} {k e q b : Nat} (h1 : ρ x = .fv (.sl (bs.flatMap encB) k)) (h2 : lk T.sli s = some (e, q, b)) (h3 : lk T.kind e = some .u8) (h4 : lk T.str t = some ()) (hk : k = bs.length) : Eff T ρ H d (.convert s t x) (.fv (.str ⟨bs.toArray⟩)) [] := by
  subst hk
  exact .b2s h1 h2 h3 h4
end
theorem at_T (bs : List UInt8) (k i : Nat) (v : Int) (hk : k = bs.length) (hv : v = (i : Int)) (hi : i + 1 < k) (hl : k ≤ 140737488355328) : Fun Tryz.prog 175 [.fv (.int .i64 v), .fptr [.sl (bs.flatMap encB) k]] (.fv (.int .i64 (wat bs i : Nat))) := by
  have u1 := (byteAt bs i).toNat_lt
  have u2 := (byteAt bs (i + 1)).toNat_lt
  refine Fun.body tbl_ok Tryz.func175 rfl (by kernel_rfl) rfl rfl rfl ?_
  repeat' (first | (apply X.loE; (· exact aR); (· first | (exact .eff (.idxBI i hk rfl rfl rfl hv (by omega))) | (exact .eff (.idxBI (i + 1) hk rfl rfl rfl (by omega) (by omega))) | (exact .eff (.conv8 rfl rfl rfl)) | (exact .eff (.shlB rfl rfl (by omega))) | (exact .eff (.orB rfl rfl (by omega) (by omega))))) | refine X.loc ?_ | refine nx ?_ | refine X.cdT ?_ | refine X.cdF ?_ | refine cb ?_ ?_ | (refine cc ?_ ?_ <;> intro hcond) | (apply X.gsE; (· exact aR); (· exact aV); (· exact aW); (· intro hc; first | (exact .eff (.idxBI i hk rfl rfl rfl hv (by omega))) | (exact .eff (.idxBI (i + 1) hk rfl rfl rfl (by omega) (by omega))) | (exact .eff (.conv8 rfl rfl rfl)) | (exact .eff (.shlB rfl rfl (by omega))) | (exact .eff (.orB rfl rfl (by omega) (by omega)))); (· exact aR)) | refine rb ?_ | refine nd ?_ | refine dk ?_ | fail)
  refine .f1 (.inl rfl) rfl ?_
  rfl
end Go.Proofs.YtmidechdlbcepaaGreat