import Derived.Test.YtmidechdlbcepaaPack28
import Derived.Test.YtmidechdlbcepaaPack31
import Derived.Test.YtmidechdlbcepaaPack23
import Derived.Test.YtmidechdlbcepaaPack27
set_option linter.unusedSimpArgs false
set_option linter.unusedVariables false
namespace Go.Proofs.Ytmidechdlbcepaa
open Go.RowKit
set_option maxRecDepth 100000

def cmpM : List Int → List Int → Int
  | a :: l, b :: m => if a < b then -1 else if a > b then 1 else cmpM l m
  | l, m => (l.length : Int) - (m.length : Int)
theorem cmpM_cmpL : ∀ (l m : List Int), (cmpM l m = 0 ↔ cmpL l m = 0) ∧ (cmpM l m < 0 ↔ cmpL l m < 0)
  | [], [] => by simp [cmpM, cmpL]
  | [], _ :: _ => by simp [cmpM, cmpL]; omega
  | _ :: _, [] => by simp [cmpM, cmpL]; omega
  | a :: l, b :: m => by
    have ih := cmpM_cmpL l m
    unfold cmpM cmpL cmpI
    by_cases h1 : a < b
    · simp [h1]
    · by_cases h2 : b < a
      · simp [h1, h2]
      · simp only [h1, h2, if_false, gt_iff_lt]
        simpa using ih
def headP (x y : Fl) : List Int := [x.table, y.prio, (x.ms.length : Int), (x.ds.length : Int)]
def numsP (x y : Fl) : List Int := headP x y ++ x.ms.flatMap mx3 ++ x.ds.flatMap dx3
def placesR (x y : Fl) : Int := cmpM (numsP x y) (numsP y x)
theorem placesR_ord (x y : Fl) : (placesR x y = 0 ↔ ordF x y = 0) ∧ (placesR x y < 0 ↔ ordF x y < 0) := by
  have h := cmpM_cmpL (numsP x y) (numsP y x)
  have e : cmpL (numsP x y) (numsP y x) = ordF x y := by
    unfold numsP headP ordF keyOf numsOf
    simp only [List.cons_append, List.nil_append, cmpL, cmpI_swap]
  rw [e] at h
  exact h
set_option maxHeartbeats 40000000 in
theorem places_T (a b : Fl) (ha : a.Fit) (hb : b.Fit) : Fun Try.prog 31 [.agg ((encFl a).map .fv), .agg ((encFl b).map .fv)] (.fv (.int .i64 (placesR a b))) := by
  unfold Fl.Fit at ha hb
  refine Fun.body tbl_ok Try.func31 rfl (by kernel_rfl) rfl rfl rfl ?_
  repeat' (first | refine X.loc ?_ | refine nx ?_ | (refine WP.condBit rfl ?_ ?_) | (refine WP.cond rfl ?_ ?_ <;> intro hcond) | refine rb ?_ | refine nd ?_ | refine dk ?_ | fail)
  refine WP.loop (ι := Nat) (fun k => ⟨[(2, .optr 2 0), (3, .optr 3 0), (7, .fv (.int .i64 k)), (5, .osl 905), (6, .osl 906)], [(2, .box 74 ((encFl a).map .fv)), (3, .box 74 ((encFl b).map .fv)), (905, .row 3 1 (4 + 3 * k) (((headP a b ++ (a.ms.take k).flatMap mx3).flatMap encI).map .fv)), (906, .row 3 1 4 (((headP b a).flatMap encI).map .fv))]⟩) (fun k => k ≤ a.ms.length) (fun k => a.ms.length - k) 0 (by omega) ?_ ?_
  · skip
    refine St.to [(905, .id 22), (906, .id 33)] [] rfl rfl ?_ ?_ <;> (repeat' (first | exact tA | refine t1 ?_ | exact tB | refine t2 ?_ ?_ | refine t3 ?_ | refine t4 ?_ ?_ | refine .ofEq ?_ | refine OB.To.cut rfl rfl ?_ ?_ ?_ ?_ | refine OB.To.box rfl rfl ?_ | refine ⟨⟨_, rfl, ?_⟩, ?_⟩ | refine ⟨?_, ?_⟩ | fail))
  rintro k hk
  try dsimp only
  by_cases hlt : k < a.ms.length
  case pos =>
    obtain ⟨x, hx⟩ : ∃ x, a.ms[k]? = some x := ⟨_, List.getElem?_eq_getElem hlt⟩
    have hs : headP a b ++ (a.ms.take (k + 1)).flatMap mx3 = (headP a b ++ (a.ms.take k).flatMap mx3) ++ [x.field, x.mask, x.value] := by
      rw [take_succ hx]
      simp [mx3]
    generalize headP a b ++ (a.ms.take k).flatMap mx3 = L at *
    repeat' (first | refine X.loc ?_ | refine nx ?_ | refine X.cdT ?_ | refine X.cdF ?_ | (refine WP.condBit rfl ?_ ?_) | (refine WP.cond rfl ?_ ?_ <;> intro hcond) | refine rb ?_ | refine nd ?_ | refine dk ?_ | fail)
    refine ⟨k + 1, by omega, by omega, ?_⟩
    try dsimp only
    rw [hs]
    refine St.to [(905, .id 61)] [] rfl rfl ?_ ?_ <;> (repeat' (first | exact tA | refine t1 ?_ | exact tB | refine t2 ?_ ?_ | refine t3 ?_ | refine t4 ?_ ?_ | refine .ofEq ?_ | refine OB.To.cut rfl rfl ?_ ?_ ?_ ?_ | refine OB.To.box rfl rfl ?_ | refine ⟨⟨_, rfl, ?_⟩, ?_⟩ | refine ⟨?_, ?_⟩ | fail))
    all_goals first | omega | (simp; done) | (simp; omega) | (simp only [List.flatMap_append, List.map_append]; rfl)
  case neg =>
    obtain rfl : k = a.ms.length := by omega
    rw [List.take_length]
    have hX1 : headP a b ++ a.ms.flatMap mx3 = headP a b ++ a.ms.flatMap mx3 := rfl
    repeat' (first | refine X.loc ?_ | refine nx ?_ | refine X.cdT ?_ | refine X.cdF ?_ | (refine WP.condBit rfl ?_ ?_) | (refine WP.cond rfl ?_ ?_ <;> intro hcond) | refine rb ?_ | refine nd ?_ | refine dk ?_ | fail)
    refine WP.loop (ι := Nat) (fun k => ⟨[(2, .optr 2 0), (3, .optr 3 0), (5, .osl 905), (6, .osl 906), (8, .fv (.int .i64 k))], [(2, .box 74 ((encFl a).map .fv)), (3, .box 74 ((encFl b).map .fv)), (905, .row 3 1 (4 + 3 * a.ms.length) (((headP a b ++ a.ms.flatMap mx3).flatMap encI).map .fv)), (906, .row 3 1 (4 + 3 * k) (((headP b a ++ (b.ms.take k).flatMap mx3).flatMap encI).map .fv))]⟩) (fun k => k ≤ b.ms.length) (fun k => b.ms.length - k) 0 (by omega) ?_ ?_
    · skip
      refine St.to [] [] rfl rfl ?_ ?_ <;> (repeat' (first | exact tA | refine t1 ?_ | exact tB | refine t2 ?_ ?_ | refine t3 ?_ | refine t4 ?_ ?_ | refine .ofEq ?_ | refine OB.To.cut rfl rfl ?_ ?_ ?_ ?_ | refine OB.To.box rfl rfl ?_ | refine ⟨⟨_, rfl, ?_⟩, ?_⟩ | refine ⟨?_, ?_⟩ | fail))
    rintro k hk
    try dsimp only
    by_cases hlt : k < b.ms.length
    case pos =>
      obtain ⟨x, hx⟩ : ∃ x, b.ms[k]? = some x := ⟨_, List.getElem?_eq_getElem hlt⟩
      have hs : headP b a ++ (b.ms.take (k + 1)).flatMap mx3 = (headP b a ++ (b.ms.take k).flatMap mx3) ++ [x.field, x.mask, x.value] := by
        rw [take_succ hx]
        simp [mx3]
      generalize headP b a ++ (b.ms.take k).flatMap mx3 = L at *
      generalize headP a b ++ a.ms.flatMap mx3 = L1 at *
      repeat' (first | refine X.loc ?_ | refine nx ?_ | refine X.cdT ?_ | refine X.cdF ?_ | (refine WP.condBit rfl ?_ ?_) | (refine WP.cond rfl ?_ ?_ <;> intro hcond) | refine rb ?_ | refine nd ?_ | refine dk ?_ | fail)
      refine ⟨k + 1, by omega, by omega, ?_⟩
      try dsimp only
      rw [hs]
      refine St.to [(906, .id 89)] [] rfl rfl ?_ ?_ <;> (repeat' (first | exact tA | refine t1 ?_ | exact tB | refine t2 ?_ ?_ | refine t3 ?_ | refine t4 ?_ ?_ | refine .ofEq ?_ | refine OB.To.cut rfl rfl ?_ ?_ ?_ ?_ | refine OB.To.box rfl rfl ?_ | refine ⟨⟨_, rfl, ?_⟩, ?_⟩ | refine ⟨?_, ?_⟩ | fail))
      all_goals first | omega | (simp; done) | (simp; omega) | (simp only [List.flatMap_append, List.map_append]; rfl)
    case neg =>
      obtain rfl : k = b.ms.length := by omega
      rw [List.take_length]
      repeat' (first | refine X.loc ?_ | refine nx ?_ | refine X.cdT ?_ | refine X.cdF ?_ | (refine WP.condBit rfl ?_ ?_) | (refine WP.cond rfl ?_ ?_ <;> intro hcond) | refine rb ?_ | refine nd ?_ | refine dk ?_ | fail)
      refine WP.loop (ι := Nat) (fun k => ⟨[(2, .optr 2 0), (3, .optr 3 0), (5, .osl 905), (6, .osl 906), (9, .fv (.int .i64 k))], [(2, .box 74 ((encFl a).map .fv)), (3, .box 74 ((encFl b).map .fv)), (905, .row 3 1 (4 + 3 * a.ms.length + 3 * k) (((headP a b ++ a.ms.flatMap mx3 ++ (a.ds.take k).flatMap dx3).flatMap encI).map .fv)), (906, .row 3 1 (4 + 3 * b.ms.length) (((headP b a ++ b.ms.flatMap mx3).flatMap encI).map .fv))]⟩) (fun k => k ≤ a.ds.length) (fun k => a.ds.length - k) 0 (by omega) ?_ ?_
      · rw [List.take_zero, List.flatMap_nil, List.append_nil]
        refine St.to [] [] rfl rfl ?_ ?_ <;> (repeat' (first | exact tA | refine t1 ?_ | exact tB | refine t2 ?_ ?_ | refine t3 ?_ | refine t4 ?_ ?_ | refine .ofEq ?_ | refine OB.To.cut rfl rfl ?_ ?_ ?_ ?_ | refine OB.To.box rfl rfl ?_ | refine ⟨⟨_, rfl, ?_⟩, ?_⟩ | refine ⟨?_, ?_⟩ | fail))
        all_goals omega
      rintro k hk
      try dsimp only
      by_cases hlt : k < a.ds.length
      case pos =>
        obtain ⟨x, hx⟩ : ∃ x, a.ds[k]? = some x := ⟨_, List.getElem?_eq_getElem hlt⟩
        have hs : headP a b ++ a.ms.flatMap mx3 ++ (a.ds.take (k + 1)).flatMap dx3 = (headP a b ++ a.ms.flatMap mx3 ++ (a.ds.take k).flatMap dx3) ++ [x.kind, x.a, x.n] := by
          rw [take_succ hx]
          simp [dx3]
        generalize headP a b ++ a.ms.flatMap mx3 ++ (a.ds.take k).flatMap dx3 = L at *
        generalize headP b a ++ b.ms.flatMap mx3 = L1 at *
        repeat' (first | refine X.loc ?_ | refine nx ?_ | refine X.cdT ?_ | refine X.cdF ?_ | (refine WP.condBit rfl ?_ ?_) | (refine WP.cond rfl ?_ ?_ <;> intro hcond) | refine rb ?_ | refine nd ?_ | refine dk ?_ | fail)
        refine ⟨k + 1, by omega, by omega, ?_⟩
        try dsimp only
        rw [hs]
        refine St.to [(905, .id 117)] [] rfl rfl ?_ ?_ <;> (repeat' (first | exact tA | refine t1 ?_ | exact tB | refine t2 ?_ ?_ | refine t3 ?_ | refine t4 ?_ ?_ | refine .ofEq ?_ | refine OB.To.cut rfl rfl ?_ ?_ ?_ ?_ | refine OB.To.box rfl rfl ?_ | refine ⟨⟨_, rfl, ?_⟩, ?_⟩ | refine ⟨?_, ?_⟩ | fail))
        all_goals first | omega | (simp; done) | (simp; omega) | (simp only [List.flatMap_append, List.map_append]; rfl)
      case neg =>
        obtain rfl : k = a.ds.length := by omega
        rw [List.take_length]
        have hn : headP a b ++ a.ms.flatMap mx3 ++ a.ds.flatMap dx3 = numsP a b := rfl
        rw [hn]
        repeat' (first | refine X.loc ?_ | refine nx ?_ | refine X.cdT ?_ | refine X.cdF ?_ | (refine WP.condBit rfl ?_ ?_) | (refine WP.cond rfl ?_ ?_ <;> intro hcond) | refine rb ?_ | refine nd ?_ | refine dk ?_ | fail)
        refine WP.loop (ι := Nat) (fun k => ⟨[(2, .optr 2 0), (3, .optr 3 0), (5, .osl 905), (6, .osl 906), (10, .fv (.int .i64 k))], [(2, .box 74 ((encFl a).map .fv)), (3, .box 74 ((encFl b).map .fv)), (905, .row 3 1 (4 + 3 * a.ms.length + 3 * a.ds.length) (((numsP a b).flatMap encI).map .fv)), (906, .row 3 1 (4 + 3 * b.ms.length + 3 * k) (((headP b a ++ b.ms.flatMap mx3 ++ (b.ds.take k).flatMap dx3).flatMap encI).map .fv))]⟩) (fun k => k ≤ b.ds.length) (fun k => b.ds.length - k) 0 (by omega) ?_ ?_
        · rw [List.take_zero, List.flatMap_nil, List.append_nil]
          refine St.to [] [] rfl rfl ?_ ?_ <;> (repeat' (first | exact tA | refine t1 ?_ | exact tB | refine t2 ?_ ?_ | refine t3 ?_ | refine t4 ?_ ?_ | refine .ofEq ?_ | refine OB.To.cut rfl rfl ?_ ?_ ?_ ?_ | refine OB.To.box rfl rfl ?_ | refine ⟨⟨_, rfl, ?_⟩, ?_⟩ | refine ⟨?_, ?_⟩ | fail))
          all_goals omega
        rintro k hk
        try dsimp only
        by_cases hlt : k < b.ds.length
        case pos =>
          obtain ⟨x, hx⟩ : ∃ x, b.ds[k]? = some x := ⟨_, List.getElem?_eq_getElem hlt⟩
          have hs : headP b a ++ b.ms.flatMap mx3 ++ (b.ds.take (k + 1)).flatMap dx3 = (headP b a ++ b.ms.flatMap mx3 ++ (b.ds.take k).flatMap dx3) ++ [x.kind, x.a, x.n] := by
            rw [take_succ hx]
            simp [dx3]
          generalize headP b a ++ b.ms.flatMap mx3 ++ (b.ds.take k).flatMap dx3 = L at *
          generalize numsP a b = L1 at *
          repeat' (first | refine X.loc ?_ | refine nx ?_ | refine X.cdT ?_ | refine X.cdF ?_ | (refine WP.condBit rfl ?_ ?_) | (refine WP.cond rfl ?_ ?_ <;> intro hcond) | refine rb ?_ | refine nd ?_ | refine dk ?_ | fail)
          refine ⟨k + 1, by omega, by omega, ?_⟩
          try dsimp only
          rw [hs]
          refine St.to [(906, .id 145)] [] rfl rfl ?_ ?_ <;> (repeat' (first | exact tA | refine t1 ?_ | exact tB | refine t2 ?_ ?_ | refine t3 ?_ | refine t4 ?_ ?_ | refine .ofEq ?_ | refine OB.To.cut rfl rfl ?_ ?_ ?_ ?_ | refine OB.To.box rfl rfl ?_ | refine ⟨⟨_, rfl, ?_⟩, ?_⟩ | refine ⟨?_, ?_⟩ | fail))
          all_goals first | omega | (simp; done) | (simp; omega) | (simp only [List.flatMap_append, List.map_append]; rfl)
        case neg =>
          obtain rfl : k = b.ds.length := by omega
          rw [List.take_length]
          have hn : headP b a ++ b.ms.flatMap mx3 ++ b.ds.flatMap dx3 = numsP b a := rfl
          rw [hn]
          have hl1 : (numsP a b).length = 4 + 3 * a.ms.length + 3 * a.ds.length := by
            unfold numsP headP
            rw [List.length_append, List.length_append, flat_len (s := 3) (fun _ => rfl), flat_len (s := 3) (fun _ => rfl)]
            rfl
          have hl2 : (numsP b a).length = 4 + 3 * b.ms.length + 3 * b.ds.length := by
            unfold numsP headP
            rw [List.length_append, List.length_append, flat_len (s := 3) (fun _ => rfl), flat_len (s := 3) (fun _ => rfl)]
            rfl
          have hR : placesR a b = cmpM (numsP a b) (numsP b a) := rfl
          rw [hR, ← hl1, ← hl2]
          generalize numsP a b = U at *
          generalize numsP b a = V at *
          repeat' (first | refine X.loc ?_ | refine nx ?_ | refine X.cdT ?_ | refine X.cdF ?_ | (refine WP.condBit rfl ?_ ?_) | (refine WP.cond rfl ?_ ?_ <;> intro hcond) | refine rb ?_ | refine nd ?_ | refine dk ?_ | fail)
          refine WP.loop (ι := Nat) (fun k => ⟨[(5, .fv (slOf encI U)), (6, .fv (slOf encI V)), (11, .fv (.int .i64 k))], []⟩) (fun k => k ≤ U.length ∧ k ≤ V.length ∧ cmpM U V = cmpM (U.drop k) (V.drop k)) (fun k => U.length - k) 0 ⟨by omega, by omega, rfl⟩ ?_ ?_
          · skip
            refine St.to [] [905, 906] rfl rfl ?_ ?_ <;> (repeat' (first | exact tA | refine t1 ?_ | exact tB | refine t2 ?_ ?_ | refine t3 ?_ | refine t4 ?_ ?_ | refine .ofEq ?_ | refine OB.To.cut rfl rfl ?_ ?_ ?_ ?_ | refine OB.To.box rfl rfl ?_ | refine ⟨⟨_, rfl, ?_⟩, ?_⟩ | refine ⟨?_, ?_⟩ | fail))
          rintro k ⟨hk, hkm, he⟩
          try dsimp only
          by_cases hlt : k < U.length ∧ k < V.length
          case neg =>
            have e : cmpM U V = (U.length : Int) - (V.length : Int) := by
              rw [he]
              rcases Nat.lt_or_ge k U.length with h | h
              · rw [List.drop_eq_nil_of_le (show V.length ≤ k by omega)]
                obtain ⟨y, r, hy⟩ : ∃ y r, U.drop k = y :: r := ⟨_, _, List.drop_eq_getElem_cons h⟩
                rw [hy, cmpM, ← hy, List.length_drop]
                · simp; omega
                · intro a l b m h1 h2; cases h2
              · rw [List.drop_eq_nil_of_le h, cmpM]
                · rw [List.length_drop]; simp; omega
                · intro a l b m h1 h2; cases h1
            rw [e]
            repeat' (first | refine X.loc ?_ | refine nx ?_ | refine X.cdT ?_ | refine X.cdF ?_ | (refine WP.condBit rfl ?_ ?_) | (refine WP.cond rfl ?_ ?_ <;> intro hcond) | refine rb ?_ | refine nd ?_ | refine dk ?_ | fail)
            exact .f1 (.inl rfl) rfl rfl
          case pos =>
            obtain ⟨x, hx⟩ : ∃ x, U[k]? = some x := ⟨_, List.getElem?_eq_getElem hlt.1⟩
            obtain ⟨y, hy⟩ : ∃ y, V[k]? = some y := ⟨_, List.getElem?_eq_getElem hlt.2⟩
            have hdx : U.drop k = x :: U.drop (k + 1) := by rw [List.drop_eq_getElem_cons hlt.1, (List.getElem?_eq_some_iff.1 hx).2]
            have hdy : V.drop k = y :: V.drop (k + 1) := by rw [List.drop_eq_getElem_cons hlt.2, (List.getElem?_eq_some_iff.1 hy).2]
            rw [hdx, hdy, cmpM] at he
            by_cases h1 : x < y
            · rw [if_pos h1] at he
              rw [he]
              repeat' (first | refine X.loc ?_ | refine nx ?_ | refine X.cdT ?_ | refine X.cdF ?_ | (refine WP.condBit rfl ?_ ?_) | (refine WP.cond rfl ?_ ?_ <;> intro hcond) | refine rb ?_ | refine nd ?_ | refine dk ?_ | fail)
              exact .f1 (.inl rfl) rfl rfl
            · rw [if_neg h1] at he
              by_cases h2 : x > y
              · rw [if_pos h2] at he
                rw [he]
                repeat' (first | refine X.loc ?_ | refine nx ?_ | refine X.cdT ?_ | refine X.cdF ?_ | (refine WP.condBit rfl ?_ ?_) | (refine WP.cond rfl ?_ ?_ <;> intro hcond) | refine rb ?_ | refine nd ?_ | refine dk ?_ | fail)
                exact .f1 (.inl rfl) rfl rfl
              · rw [if_neg h2] at he
                repeat' (first | refine X.loc ?_ | refine nx ?_ | refine X.cdT ?_ | refine X.cdF ?_ | (refine WP.condBit rfl ?_ ?_) | (refine WP.cond rfl ?_ ?_ <;> intro hcond) | refine rb ?_ | refine nd ?_ | refine dk ?_ | fail)
                refine ⟨k + 1, ⟨by omega, by omega, he⟩, by omega, ?_⟩
                refine St.to [] [] rfl rfl ?_ ?_ <;> (repeat' (first | exact tA | refine t1 ?_ | exact tB | refine t2 ?_ ?_ | refine t3 ?_ | refine t4 ?_ ?_ | refine .ofEq ?_ | refine OB.To.cut rfl rfl ?_ ?_ ?_ ?_ | refine OB.To.box rfl rfl ?_ | refine ⟨⟨_, rfl, ?_⟩, ?_⟩ | refine ⟨?_, ?_⟩ | fail))
end Go.Proofs.Ytmidechdlbcepaa

namespace Go.Proofs.Ytmidechdlbcepaa
open Go.RowKit
set_option maxRecDepth 100000

set_option maxHeartbeats 2000000 in
theorem flowCopy_T (f : Fl) (hf : f.Fit) : Fun Try.prog 32 [.agg ((encFl f).map .fv)] (.agg ((encFl f).map .fv)) := by
  unfold Fl.Fit at hf
  refine Fun.body tbl_ok Try.func32 rfl (by kernel_rfl) rfl rfl rfl ?_
  repeat' (first | refine X.loc ?_ | refine nx ?_ | (refine WP.condBit rfl ?_ ?_) | (refine WP.cond rfl ?_ ?_ <;> intro hcond) | refine rb ?_ | refine nd ?_ | refine dk ?_ | fail)
  refine WP.loop (ι := Nat) (fun k => ⟨[(1, .optr 1 0), (2, .optr 2 0), (3, .optr 3 0), (4, .fv (.int .i64 k))], [(1, .box 74 ((encFl f).map .fv)), (2, .box 74 [.fv (.int .i64 0), .fv (.int .i64 0), .nil, .nil]), (3, .box 74 [.fv (.int .i64 f.table), .fv (.int .i64 f.prio), .osl 900, .nil]), (900, .row 77 3 (f.ms.take k).length (((f.ms.take k).flatMap encMx).map .fv))]⟩) (fun k => k ≤ f.ms.length) (fun k => f.ms.length - k) 0 (by omega) ?_ ?_
  · skip
    refine St.to [(900, .nil)] [] rfl rfl ?_ ?_ <;> (repeat' (first | exact tA | refine t1 ?_ | exact tB | refine t2 ?_ ?_ | refine t3 ?_ | refine t4 ?_ ?_ | refine .ofEq ?_ | refine OB.To.cut rfl rfl ?_ ?_ ?_ ?_ | refine OB.To.box rfl rfl ?_ | refine ⟨⟨_, rfl, ?_⟩, ?_⟩ | refine ⟨?_, ?_⟩ | fail))
  rintro k hk
  try dsimp only
  by_cases hlt : k < f.ms.length
  case pos =>
    obtain ⟨x, hx⟩ : ∃ x, f.ms[k]? = some x := ⟨_, List.getElem?_eq_getElem hlt⟩
    have hs := take_succ hx
    have hl : (f.ms.take k).length = k := by rw [List.length_take]; omega
    generalize f.ms.take k = L at *
    repeat' (first | refine X.loc ?_ | refine nx ?_ | refine X.cdT ?_ | refine X.cdF ?_ | (refine WP.condBit rfl ?_ ?_) | (refine WP.cond rfl ?_ ?_ <;> intro hcond) | refine rb ?_ | refine nd ?_ | refine dk ?_ | fail)
    refine ⟨k + 1, by omega, by omega, ?_⟩
    try dsimp only
    rw [hs]
    refine St.to [(900, .id 26)] [] rfl rfl ?_ ?_ <;> (repeat' (first | exact tA | refine t1 ?_ | exact tB | refine t2 ?_ ?_ | refine t3 ?_ | refine t4 ?_ ?_ | refine .ofEq ?_ | refine OB.To.cut rfl rfl ?_ ?_ ?_ ?_ | refine OB.To.box rfl rfl ?_ | refine ⟨⟨_, rfl, ?_⟩, ?_⟩ | refine ⟨?_, ?_⟩ | fail))
    all_goals first | omega | (simp; done) | (simp only [List.flatMap_append, List.map_append]; rfl)
  case neg =>
    obtain rfl : k = f.ms.length := by omega
    rw [List.take_length]
    repeat' (first | refine X.loc ?_ | refine nx ?_ | refine X.cdT ?_ | refine X.cdF ?_ | (refine WP.condBit rfl ?_ ?_) | (refine WP.cond rfl ?_ ?_ <;> intro hcond) | refine rb ?_ | refine nd ?_ | refine dk ?_ | fail)
    refine WP.loop (ι := Nat) (fun k => ⟨[(1, .optr 1 0), (2, .optr 2 0), (3, .optr 3 0), (5, .fv (.int .i64 k))], [(1, .box 74 ((encFl f).map .fv)), (2, .box 74 [.fv (.int .i64 0), .fv (.int .i64 0), .nil, .nil]), (3, .box 74 [.fv (.int .i64 f.table), .fv (.int .i64 f.prio), .fv (slOf encMx f.ms), .osl 901]), (901, .row 80 3 (f.ds.take k).length (((f.ds.take k).flatMap encDx).map .fv))]⟩) (fun k => k ≤ f.ds.length) (fun k => f.ds.length - k) 0 (by omega) ?_ ?_
    · skip
      refine St.to [(901, .nil)] [900] rfl rfl ?_ ?_ <;> (repeat' (first | exact tA | refine t1 ?_ | exact tB | refine t2 ?_ ?_ | refine t3 ?_ | refine t4 ?_ ?_ | refine .ofEq ?_ | refine OB.To.cut rfl rfl ?_ ?_ ?_ ?_ | refine OB.To.box rfl rfl ?_ | refine ⟨⟨_, rfl, ?_⟩, ?_⟩ | refine ⟨?_, ?_⟩ | fail))
    rintro k hk
    try dsimp only
    by_cases hlt : k < f.ds.length
    case pos =>
      obtain ⟨x, hx⟩ : ∃ x, f.ds[k]? = some x := ⟨_, List.getElem?_eq_getElem hlt⟩
      have hs := take_succ hx
      have hl : (f.ds.take k).length = k := by rw [List.length_take]; omega
      generalize f.ds.take k = L at *
      repeat' (first | refine X.loc ?_ | refine nx ?_ | refine X.cdT ?_ | refine X.cdF ?_ | (refine WP.condBit rfl ?_ ?_) | (refine WP.cond rfl ?_ ?_ <;> intro hcond) | refine rb ?_ | refine nd ?_ | refine dk ?_ | fail)
      refine ⟨k + 1, by omega, by omega, ?_⟩
      try dsimp only
      rw [hs]
      refine St.to [(901, .id 43)] [] rfl rfl ?_ ?_ <;> (repeat' (first | exact tA | refine t1 ?_ | exact tB | refine t2 ?_ ?_ | refine t3 ?_ | refine t4 ?_ ?_ | refine .ofEq ?_ | refine OB.To.cut rfl rfl ?_ ?_ ?_ ?_ | refine OB.To.box rfl rfl ?_ | refine ⟨⟨_, rfl, ?_⟩, ?_⟩ | refine ⟨?_, ?_⟩ | fail))
      all_goals first | omega | (simp; done) | (simp only [List.flatMap_append, List.map_append]; rfl)
    case neg =>
      obtain rfl : k = f.ds.length := by omega
      rw [List.take_length]
      repeat' (first | refine X.loc ?_ | refine nx ?_ | refine X.cdT ?_ | refine X.cdF ?_ | (refine WP.condBit rfl ?_ ?_) | (refine WP.cond rfl ?_ ?_ <;> intro hcond) | refine rb ?_ | refine nd ?_ | refine dk ?_ | fail)
      refine .le (s' := ⟨[(2, .optr 2 0)], [(2, .box 74 ((encFl f).map .fv))]⟩) ?_ (.fun (.inl rfl) rfl rfl)
      refine St.to [] [901] rfl rfl ?_ ?_ <;> (repeat' (first | exact tA | refine t1 ?_ | exact tB | refine t2 ?_ ?_ | refine t3 ?_ | refine t4 ?_ ?_ | refine .ofEq ?_ | refine OB.To.cut rfl rfl ?_ ?_ ?_ ?_ | refine OB.To.box rfl rfl ?_ | refine ⟨⟨_, rfl, ?_⟩, ?_⟩ | refine ⟨?_, ?_⟩ | fail))
end Go.Proofs.Ytmidechdlbcepaa

namespace Go.Proofs.Ytmidechdlbcepaa
open Go.RowKit
set_option maxRecDepth 100000

theorem sortedR_snoc {l : List Fl} {k : Nat} {x : Fl} (hx : l[k]? = some x) : sortedR (l.take (k + 1)) = insS x false (sortedR (l.take k)) := by
  unfold sortedR
  rw [take_succ hx, List.foldl_append]
  rfl
theorem sortedR_mem (l : List Fl) (z : Fl) : z ∈ sortedR l ↔ z ∈ l := by rw [sortedR_eq, sortedF_mem]
theorem sortedR_len (l : List Fl) : (sortedR l).length ≤ l.length := by rw [sortedR_eq]; exact sortedF_len l
set_option maxHeartbeats 8000000 in
theorem sortedOf_T (l : List Fl) (hf : FitL l) (hl : l.length ≤ 4000000) : FunO Try.prog 8 [.fv (slOf encFl l)] [] (.osl 7) [(7, .row 74 4 (sortedF l).length (((sortedF l).flatMap encFl).map .fv))] := by
  rw [← sortedR_eq]
  refine FunO.bodyL tbl_ok Try.func8 rfl (by kernel_rfl) rfl rfl rfl ?_
  repeat' (first | refine X.loc ?_ | refine nx ?_ | (refine WP.condBit rfl ?_ ?_) | (refine WP.cond rfl ?_ ?_ <;> intro hcond) | refine rb ?_ | refine nd ?_ | refine dk ?_ | fail)
  refine WP.loop (ι := Nat) (fun i => ⟨[(0, .fv (slOf encFl l)), (3, .osl 900), (4, .fv (.int .i64 i))], [(900, .row 74 4 (sortedR (l.take i)).length (((sortedR (l.take i)).flatMap encFl).map .fv))]⟩) (fun i => i ≤ l.length) (fun i => l.length - i) 0 (by omega) ?_ ?_
  · skip
    refine St.to [(900, .nil)] [] rfl rfl ?_ ?_ <;> (repeat' (first | exact tA | refine t1 ?_ | exact tB | refine t2 ?_ ?_ | refine t3 ?_ | refine t4 ?_ ?_ | refine .ofEq ?_ | refine OB.To.cut rfl rfl ?_ ?_ ?_ ?_ | refine OB.To.box rfl rfl ?_ | refine ⟨⟨_, rfl, ?_⟩, ?_⟩ | refine ⟨?_, ?_⟩ | fail))
  rintro i hi
  try dsimp only
  by_cases hlt : i < l.length
  case neg =>
    rw [List.take_of_length_le (by omega)]
    generalize sortedR l = S at *
    repeat' (first | refine X.loc ?_ | refine nx ?_ | refine X.cdT ?_ | refine X.cdF ?_ | (refine WP.condBit rfl ?_ ?_) | (refine WP.cond rfl ?_ ?_ <;> intro hcond) | refine rb ?_ | refine nd ?_ | refine dk ?_ | fail)
    refine .ofL (s' := ⟨[(2, .osl 7)], [(7, .row 74 4 S.length ((S.flatMap encFl).map .fv))]⟩) (by first | exact .inl rfl | exact .inr rfl) ?_ rfl rfl (by repeat' (first | exact trivial | refine ⟨⟨_, rfl, fun _ _ _ _ h => h⟩, ?_⟩))
    refine St.to [(7, .id 900)] [] rfl rfl ?_ ?_ <;> (repeat' (first | exact tA | refine t1 ?_ | exact tB | refine t2 ?_ ?_ | refine t3 ?_ | refine t4 ?_ ?_ | refine .ofEq ?_ | refine OB.To.cut rfl rfl ?_ ?_ ?_ ?_ | refine OB.To.box rfl rfl ?_ | refine ⟨⟨_, rfl, ?_⟩, ?_⟩ | refine ⟨?_, ?_⟩ | fail))
  case pos =>
    obtain ⟨x, hx⟩ : ∃ x, l[i]? = some x := ⟨_, List.getElem?_eq_getElem hlt⟩
    have hxf := hf x (List.mem_of_getElem? hx)
    have hsn := sortedR_snoc hx
    have hOl := sortedR_len (l.take i)
    have hOf : ∀ y ∈ sortedR (l.take i), y.Fit := fun y hy => hf y (List.mem_of_mem_take ((sortedR_mem _ _).1 hy))
    have hcp := flowCopy_T x hxf
    rw [List.length_take] at hOl
    generalize sortedR (l.take i) = O at *
    repeat' (first | refine X.loc ?_ | refine nx ?_ | refine X.cdT ?_ | refine X.cdF ?_ | (refine WP.condBit rfl ?_ ?_) | (refine WP.cond rfl ?_ ?_ <;> intro hcond) | refine rb ?_ | refine nd ?_ | refine dk ?_ | fail)
    refine WP.loop (ι := Nat × Bool × List Fl) (fun q => ⟨[(0, .fv (slOf encFl l)), (3, .osl 900), (4, .fv (.int .i64 i)), (5, .osl 901), (6, .fv (.bool q.2.1)), (7, .fv (.int .i64 q.1))], [(900, .row 74 4 O.length ((O.flatMap encFl).map .fv)), (901, .row 74 4 q.2.2.length ((q.2.2.flatMap encFl).map .fv))]⟩) (fun q => q.1 ≤ O.length ∧ q.2.2.length ≤ q.1 + 1 ∧ (q.2.1 = false → q.2.2.length = q.1) ∧ insS x false O = q.2.2 ++ insS x q.2.1 (O.drop q.1)) (fun q => O.length - q.1) (0, false, []) ⟨by omega, by simp, fun _ => rfl, rfl⟩ ?_ ?_
    · skip
      refine St.to [(901, .nil)] [] rfl rfl ?_ ?_ <;> (repeat' (first | exact tA | refine t1 ?_ | exact tB | refine t2 ?_ ?_ | refine t3 ?_ | refine t4 ?_ ?_ | refine .ofEq ?_ | refine OB.To.cut rfl rfl ?_ ?_ ?_ ?_ | refine OB.To.box rfl rfl ?_ | refine ⟨⟨_, rfl, ?_⟩, ?_⟩ | refine ⟨?_, ?_⟩ | fail))
    rintro ⟨k, dn, N⟩ ⟨g1, g2, g2b, g3⟩
    try dsimp only at g1 g2 g2b g3
    try dsimp only
    by_cases hk : k < O.length
    case neg =>
      rw [List.drop_eq_nil_of_le (by omega)] at g3
      cases dn with
      | true =>
        have e : insS x false O = N := by rw [g3]; simp [insS]
        repeat' (first | refine X.loc ?_ | refine nx ?_ | refine X.cdT ?_ | refine X.cdF ?_ | (refine WP.condBit rfl ?_ ?_) | (refine WP.cond rfl ?_ ?_ <;> intro hcond) | refine rb ?_ | refine nd ?_ | refine dk ?_ | fail)
        refine ⟨i + 1, by omega, by omega, ?_⟩
        try dsimp only
        rw [hsn, e]
        refine St.to [(900, .id 901)] [] rfl rfl ?_ ?_ <;> (repeat' (first | exact tA | refine t1 ?_ | exact tB | refine t2 ?_ ?_ | refine t3 ?_ | refine t4 ?_ ?_ | refine .ofEq ?_ | refine OB.To.cut rfl rfl ?_ ?_ ?_ ?_ | refine OB.To.box rfl rfl ?_ | refine ⟨⟨_, rfl, ?_⟩, ?_⟩ | refine ⟨?_, ?_⟩ | fail))
      | false =>
        have e : insS x false O = N ++ [x] := by rw [g3]; simp [insS]
        repeat' (first | (apply X.loE; (· exact aR); (· first | exact .callL rfl rfl rfl (hcp) rfl | exact bl (hcp))) | refine X.loc ?_ | refine nx ?_ | refine X.cdT ?_ | refine X.cdF ?_ | (refine WP.condBit rfl ?_ ?_) | (refine WP.cond rfl ?_ ?_ <;> intro hcond) | (apply X.gsE; (· exact aR); (· exact aV); (· exact aW); (· intro hc; first | exact .callG rfl rfl rfl (hcp) rfl | exact bg (hcp)); (· exact aR)) | refine rb ?_ | refine nd ?_ | refine dk ?_ | fail)
        refine ⟨i + 1, by omega, by omega, ?_⟩
        try dsimp only
        rw [hsn, e]
        refine St.to [(900, .id 62)] [] rfl rfl ?_ ?_ <;> (repeat' (first | exact tA | refine t1 ?_ | exact tB | refine t2 ?_ ?_ | refine t3 ?_ | refine t4 ?_ ?_ | refine .ofEq ?_ | refine OB.To.cut rfl rfl ?_ ?_ ?_ ?_ | refine OB.To.box rfl rfl ?_ | refine ⟨⟨_, rfl, ?_⟩, ?_⟩ | refine ⟨?_, ?_⟩ | fail))
        all_goals first | omega | (simp; done) | (simp only [List.flatMap_append, List.map_append]; rfl)
    case pos =>
      obtain ⟨y, hy⟩ : ∃ y, O[k]? = some y := ⟨_, List.getElem?_eq_getElem hk⟩
      have hyf := hOf y (List.mem_of_getElem? hy)
      have hdy : O.drop k = y :: O.drop (k + 1) := by rw [List.drop_eq_getElem_cons hk, (List.getElem?_eq_some_iff.1 hy).2]
      rw [hdy, insS] at g3
      have hpl := places_T x y hxf hyf
      obtain ⟨p1, p2⟩ := placesR_ord x y
      generalize placesR x y = c at *
      by_cases hc0 : ordF x y = 0
      · obtain rfl := p1.2 hc0
        rw [if_neg (by rintro ⟨h, _⟩; omega), show (dn || ordF x y == 0) = true by simp [hc0]] at g3
        cases dn with
        | true =>
          repeat' (first | (apply X.loE; (· exact aR); (· first | (exact .eff (.loadO rfl rfl (readFl (i := k) (by omega) hy))) | exact .callL rfl rfl rfl (by first | exact hpl | exact hcp) rfl | exact bl (hpl) | exact bl (hcp))) | refine X.loc ?_ | refine nx ?_ | refine X.cdT ?_ | refine X.cdF ?_ | (refine WP.condBit rfl ?_ ?_) | (refine WP.cond rfl ?_ ?_ <;> intro hcond) | (apply X.gsE; (· exact aR); (· exact aV); (· exact aW); (· intro hc; first | (exact .eff (.loadO rfl rfl (readFl (i := k) (by omega) hy))) | exact .callG rfl rfl rfl (by first | exact hpl | exact hcp) rfl | exact bg (hpl) | exact bg (hcp)); (· exact aR)) | refine rb ?_ | refine nd ?_ | refine dk ?_ | fail)
          refine ⟨(k + 1, true, N ++ [y]), ⟨by dsimp only; omega, by simp; omega, by simp, by rw [g3]; simp⟩, by dsimp only; omega, ?_⟩
          try dsimp only
          refine St.to [(901, .id 52)] [] rfl rfl ?_ ?_ <;> (repeat' (first | exact tA | refine t1 ?_ | exact tB | refine t2 ?_ ?_ | refine t3 ?_ | refine t4 ?_ ?_ | refine .ofEq ?_ | refine OB.To.cut rfl rfl ?_ ?_ ?_ ?_ | refine OB.To.box rfl rfl ?_ | refine ⟨⟨_, rfl, ?_⟩, ?_⟩ | refine ⟨?_, ?_⟩ | fail))
          all_goals first | omega | (simp; done) | (simp only [List.flatMap_append, List.map_append]; rfl)
        | false =>
          repeat' (first | (apply X.loE; (· exact aR); (· first | (exact .eff (.loadO rfl rfl (readFl (i := k) (by omega) hy))) | exact .callL rfl rfl rfl (by first | exact hpl | exact hcp) rfl | exact bl (hpl) | exact bl (hcp))) | refine X.loc ?_ | refine nx ?_ | refine X.cdT ?_ | refine X.cdF ?_ | (refine WP.condBit rfl ?_ ?_) | (refine WP.cond rfl ?_ ?_ <;> intro hcond) | (apply X.gsE; (· exact aR); (· exact aV); (· exact aW); (· intro hc; first | (exact .eff (.loadO rfl rfl (readFl (i := k) (by omega) hy))) | exact .callG rfl rfl rfl (by first | exact hpl | exact hcp) rfl | exact bg (hpl) | exact bg (hcp)); (· exact aR)) | refine rb ?_ | refine nd ?_ | refine dk ?_ | fail)
          refine ⟨(k + 1, true, N ++ [y]), ⟨by dsimp only; omega, by simp; omega, by simp, by rw [g3]; simp⟩, by dsimp only; omega, ?_⟩
          try dsimp only
          refine St.to [(901, .id 52)] [] rfl rfl ?_ ?_ <;> (repeat' (first | exact tA | refine t1 ?_ | exact tB | refine t2 ?_ ?_ | refine t3 ?_ | refine t4 ?_ ?_ | refine .ofEq ?_ | refine OB.To.cut rfl rfl ?_ ?_ ?_ ?_ | refine OB.To.box rfl rfl ?_ | refine ⟨⟨_, rfl, ?_⟩, ?_⟩ | refine ⟨?_, ?_⟩ | fail))
          all_goals first | omega | (simp; done) | (simp only [List.flatMap_append, List.map_append]; rfl)
      · have hcn : c ≠ 0 := fun h => hc0 (p1.1 h)
        have hb : (ordF x y == 0) = false := by simpa using hc0
        rw [hb, Bool.or_false] at g3
        by_cases hlt : ordF x y < 0
        · have hcl := p2.2 hlt
          cases dn with
          | true =>
            rw [if_neg (by simp)] at g3
            repeat' (first | (apply X.loE; (· exact aR); (· first | (exact .eff (.loadO rfl rfl (readFl (i := k) (by omega) hy))) | exact .callL rfl rfl rfl (by first | exact hpl | exact hcp) rfl | exact bl (hpl) | exact bl (hcp))) | refine X.loc ?_ | refine nx ?_ | refine X.cdT ?_ | refine X.cdF ?_ | (refine WP.condBit rfl ?_ ?_) | (refine WP.cond rfl ?_ ?_ <;> intro hcond) | (apply X.gsE; (· exact aR); (· exact aV); (· exact aW); (· intro hc; first | (exact .eff (.loadO rfl rfl (readFl (i := k) (by omega) hy))) | exact .callG rfl rfl rfl (by first | exact hpl | exact hcp) rfl | exact bg (hpl) | exact bg (hcp)); (· exact aR)) | refine rb ?_ | refine nd ?_ | refine dk ?_ | fail)
            · exfalso
              simp at hcond
            · refine ⟨(k + 1, true, N ++ [y]), ⟨by dsimp only; omega, by simp; omega, by simp, by rw [g3]; simp⟩, by dsimp only; omega, ?_⟩
              try dsimp only
              refine St.to [(901, .id 52)] [] rfl rfl ?_ ?_ <;> (repeat' (first | exact tA | refine t1 ?_ | exact tB | refine t2 ?_ ?_ | refine t3 ?_ | refine t4 ?_ ?_ | refine .ofEq ?_ | refine OB.To.cut rfl rfl ?_ ?_ ?_ ?_ | refine OB.To.box rfl rfl ?_ | refine ⟨⟨_, rfl, ?_⟩, ?_⟩ | refine ⟨?_, ?_⟩ | fail))
              all_goals first | omega | (simp; done) | (simp only [List.flatMap_append, List.map_append]; rfl)
          | false =>
            rw [if_pos ⟨hlt, rfl⟩] at g3
            have hN := g2b rfl
            repeat' (first | (apply X.loE; (· exact aR); (· first | (exact .eff (.loadO rfl rfl (readFl (i := k) (by omega) hy))) | exact .callL rfl rfl rfl (by first | exact hpl | exact hcp) rfl | exact bl (hpl) | exact bl (hcp))) | refine X.loc ?_ | refine nx ?_ | refine X.cdT ?_ | refine X.cdF ?_ | (refine WP.condBit rfl ?_ ?_) | (refine WP.cond rfl ?_ ?_ <;> intro hcond) | (apply X.gsE; (· exact aR); (· exact aV); (· exact aW); (· intro hc; first | (exact .eff (.loadO rfl rfl (readFl (i := k) (by omega) hy))) | exact .callG rfl rfl rfl (by first | exact hpl | exact hcp) rfl | exact bg (hpl) | exact bg (hcp)); (· exact aR)) | refine rb ?_ | refine nd ?_ | refine dk ?_ | fail)
            · refine ⟨(k + 1, true, N ++ [x] ++ [y]), ⟨by dsimp only; omega, by simp; omega, by simp, by rw [g3]; simp⟩, by dsimp only; omega, ?_⟩
              try dsimp only
              refine St.to [(901, .id 52)] [] rfl rfl ?_ ?_ <;> (repeat' (first | exact tA | refine t1 ?_ | exact tB | refine t2 ?_ ?_ | refine t3 ?_ | refine t4 ?_ ?_ | refine .ofEq ?_ | refine OB.To.cut rfl rfl ?_ ?_ ?_ ?_ | refine OB.To.box rfl rfl ?_ | refine ⟨⟨_, rfl, ?_⟩, ?_⟩ | refine ⟨?_, ?_⟩ | fail))
              all_goals first | omega | (simp; done) | (simp only [List.flatMap_append, List.map_append]; rfl)
            · exfalso
              simp [hcl] at hcond
        · have hcl : ¬ c < 0 := fun h => hlt (p2.1 h)
          rw [if_neg (fun h => hlt h.1)] at g3
          cases dn with
          | true =>
            repeat' (first | (apply X.loE; (· exact aR); (· first | (exact .eff (.loadO rfl rfl (readFl (i := k) (by omega) hy))) | exact .callL rfl rfl rfl (by first | exact hpl | exact hcp) rfl | exact bl (hpl) | exact bl (hcp))) | refine X.loc ?_ | refine nx ?_ | refine X.cdT ?_ | refine X.cdF ?_ | (refine WP.condBit rfl ?_ ?_) | (refine WP.cond rfl ?_ ?_ <;> intro hcond) | (apply X.gsE; (· exact aR); (· exact aV); (· exact aW); (· intro hc; first | (exact .eff (.loadO rfl rfl (readFl (i := k) (by omega) hy))) | exact .callG rfl rfl rfl (by first | exact hpl | exact hcp) rfl | exact bg (hpl) | exact bg (hcp)); (· exact aR)) | refine rb ?_ | refine nd ?_ | refine dk ?_ | fail)
            refine ⟨(k + 1, true, N ++ [y]), ⟨by dsimp only; omega, by simp; omega, by simp, by rw [g3]; simp⟩, by dsimp only; omega, ?_⟩
            try dsimp only
            refine St.to [(901, .id 52)] [] rfl rfl ?_ ?_ <;> (repeat' (first | exact tA | refine t1 ?_ | exact tB | refine t2 ?_ ?_ | refine t3 ?_ | refine t4 ?_ ?_ | refine .ofEq ?_ | refine OB.To.cut rfl rfl ?_ ?_ ?_ ?_ | refine OB.To.box rfl rfl ?_ | refine ⟨⟨_, rfl, ?_⟩, ?_⟩ | refine ⟨?_, ?_⟩ | fail))
            all_goals first | omega | (simp; done) | (simp only [List.flatMap_append, List.map_append]; rfl)
          | false =>
            repeat' (first | (apply X.loE; (· exact aR); (· first | (exact .eff (.loadO rfl rfl (readFl (i := k) (by omega) hy))) | exact .callL rfl rfl rfl (by first | exact hpl | exact hcp) rfl | exact bl (hpl) | exact bl (hcp))) | refine X.loc ?_ | refine nx ?_ | refine X.cdT ?_ | refine X.cdF ?_ | (refine WP.condBit rfl ?_ ?_) | (refine WP.cond rfl ?_ ?_ <;> intro hcond) | (apply X.gsE; (· exact aR); (· exact aV); (· exact aW); (· intro hc; first | (exact .eff (.loadO rfl rfl (readFl (i := k) (by omega) hy))) | exact .callG rfl rfl rfl (by first | exact hpl | exact hcp) rfl | exact bg (hpl) | exact bg (hcp)); (· exact aR)) | refine rb ?_ | refine nd ?_ | refine dk ?_ | fail)
            refine ⟨(k + 1, false, N ++ [y]), ⟨by dsimp only; omega, by simp; omega, fun _ => by have := g2b rfl; simp; omega, by rw [g3]; simp⟩, by dsimp only; omega, ?_⟩
            try dsimp only
            refine St.to [(901, .id 52)] [] rfl rfl ?_ ?_ <;> (repeat' (first | exact tA | refine t1 ?_ | exact tB | refine t2 ?_ ?_ | refine t3 ?_ | refine t4 ?_ ?_ | refine .ofEq ?_ | refine OB.To.cut rfl rfl ?_ ?_ ?_ ?_ | refine OB.To.box rfl rfl ?_ | refine ⟨⟨_, rfl, ?_⟩, ?_⟩ | refine ⟨?_, ?_⟩ | fail))
            all_goals first | omega | (simp; done) | (simp only [List.flatMap_append, List.map_append]; rfl)
end Go.Proofs.Ytmidechdlbcepaa

namespace Go.Proofs.Ytmidechdlbcepaa
open Go.RowKit
set_option maxRecDepth 100000

theorem sortedOf_F (l : List Fl) (hf : FitL l) (hl : l.length ≤ 4000000) : Fun Try.prog 8 [.fv (slOf encFl l)] (.fv (slOf encFl (sortedF l))) := (sortedOf_T l hf hl).froz [7] (.frz rfl rfl rfl)
end Go.Proofs.Ytmidechdlbcepaa

namespace Go.Proofs.Ytmidechdlbcepaa
open Go.RowKit
set_option maxRecDepth 100000

theorem sameMx_T (l : List Mx) (hl : l.length ≤ 35184372088832) : Fun Try.prog 35 [.fv (slOf encMx l), .fv (slOf encMx l)] (.fv (.bool true)) := by
  refine Fun.body tbl_ok Try.func35 rfl (by kernel_rfl) rfl rfl rfl ?_
  repeat' (first | refine X.loc ?_ | refine nx ?_ | refine X.cdT ?_ | refine X.cdF ?_ | (refine WP.condBit rfl ?_ ?_) | (refine WP.cond rfl ?_ ?_ <;> intro hcond) | refine rb ?_ | refine nd ?_ | refine dk ?_ | fail)
  refine WP.loop (ι := Nat) (fun k => ⟨[(0, .fv (slOf encMx l)), (1, .fv (slOf encMx l)), (5, .fv (.int .i64 k))], []⟩) (fun k => k ≤ l.length) (fun k => l.length - k) 0 (by omega) ?_ ?_
  · skip
    refine St.le_of ?_ ?_ <;> (repeat' (first | exact trivial | refine ⟨⟨_, rfl, .refl _⟩, ?_⟩ | refine ⟨⟨_, rfl, .any _⟩, ?_⟩ | refine ⟨⟨_, rfl, .of_eq ?_⟩, ?_⟩ | refine ⟨⟨_, rfl, fun _ _ _ _ h => h⟩, ?_⟩ | fail))
  rintro k hk
  try dsimp only
  by_cases hlt : k < l.length
  case neg =>
    repeat' (first | refine X.loc ?_ | refine nx ?_ | refine X.cdT ?_ | refine X.cdF ?_ | (refine WP.condBit rfl ?_ ?_) | (refine WP.cond rfl ?_ ?_ <;> intro hcond) | refine rb ?_ | refine nd ?_ | refine dk ?_ | fail)
    exact .f1 (.inl rfl) rfl rfl
  case pos =>
    obtain ⟨x, hx⟩ : ∃ x, l[k]? = some x := ⟨_, List.getElem?_eq_getElem hlt⟩
    repeat' (first | refine X.loc ?_ | refine nx ?_ | refine X.cdT ?_ | refine X.cdF ?_ | (refine WP.condBit rfl ?_ ?_) | (refine WP.cond rfl ?_ ?_ <;> intro hcond) | refine rb ?_ | refine nd ?_ | refine dk ?_ | fail)
    · exfalso
      simp [beqL, beqV] at hcond
    refine ⟨k + 1, by omega, by omega, ?_⟩
    try dsimp only
    refine St.le_of ?_ ?_ <;> (repeat' (first | exact trivial | refine ⟨⟨_, rfl, .refl _⟩, ?_⟩ | refine ⟨⟨_, rfl, .any _⟩, ?_⟩ | refine ⟨⟨_, rfl, .of_eq ?_⟩, ?_⟩ | refine ⟨⟨_, rfl, fun _ _ _ _ h => h⟩, ?_⟩ | fail))
theorem sameDx_T (l : List Dx) (hl : l.length ≤ 35184372088832) : Fun Try.prog 36 [.fv (slOf encDx l), .fv (slOf encDx l)] (.fv (.bool true)) := by
  refine Fun.body tbl_ok Try.func36 rfl (by kernel_rfl) rfl rfl rfl ?_
  repeat' (first | refine X.loc ?_ | refine nx ?_ | refine X.cdT ?_ | refine X.cdF ?_ | (refine WP.condBit rfl ?_ ?_) | (refine WP.cond rfl ?_ ?_ <;> intro hcond) | refine rb ?_ | refine nd ?_ | refine dk ?_ | fail)
  refine WP.loop (ι := Nat) (fun k => ⟨[(0, .fv (slOf encDx l)), (1, .fv (slOf encDx l)), (5, .fv (.int .i64 k))], []⟩) (fun k => k ≤ l.length) (fun k => l.length - k) 0 (by omega) ?_ ?_
  · skip
    refine St.le_of ?_ ?_ <;> (repeat' (first | exact trivial | refine ⟨⟨_, rfl, .refl _⟩, ?_⟩ | refine ⟨⟨_, rfl, .any _⟩, ?_⟩ | refine ⟨⟨_, rfl, .of_eq ?_⟩, ?_⟩ | refine ⟨⟨_, rfl, fun _ _ _ _ h => h⟩, ?_⟩ | fail))
  rintro k hk
  try dsimp only
  by_cases hlt : k < l.length
  case neg =>
    repeat' (first | refine X.loc ?_ | refine nx ?_ | refine X.cdT ?_ | refine X.cdF ?_ | (refine WP.condBit rfl ?_ ?_) | (refine WP.cond rfl ?_ ?_ <;> intro hcond) | refine rb ?_ | refine nd ?_ | refine dk ?_ | fail)
    exact .f1 (.inl rfl) rfl rfl
  case pos =>
    obtain ⟨x, hx⟩ : ∃ x, l[k]? = some x := ⟨_, List.getElem?_eq_getElem hlt⟩
    repeat' (first | refine X.loc ?_ | refine nx ?_ | refine X.cdT ?_ | refine X.cdF ?_ | (refine WP.condBit rfl ?_ ?_) | (refine WP.cond rfl ?_ ?_ <;> intro hcond) | refine rb ?_ | refine nd ?_ | refine dk ?_ | fail)
    · exfalso
      simp [beqL, beqV] at hcond
    refine ⟨k + 1, by omega, by omega, ?_⟩
    try dsimp only
    refine St.le_of ?_ ?_ <;> (repeat' (first | exact trivial | refine ⟨⟨_, rfl, .refl _⟩, ?_⟩ | refine ⟨⟨_, rfl, .any _⟩, ?_⟩ | refine ⟨⟨_, rfl, .of_eq ?_⟩, ?_⟩ | refine ⟨⟨_, rfl, fun _ _ _ _ h => h⟩, ?_⟩ | fail))
set_option maxHeartbeats 2000000 in
theorem sameFl_T (l : List Fl) (hf : FitL l) (hl : l.length ≤ 35184372088832) : Fun Try.prog 10 [.fv (slOf encFl l), .fv (slOf encFl l)] (.fv (.bool true)) := by
  refine Fun.body tbl_ok Try.func10 rfl (by kernel_rfl) rfl rfl rfl ?_
  repeat' (first | refine X.loc ?_ | refine nx ?_ | refine X.cdT ?_ | refine X.cdF ?_ | (refine WP.condBit rfl ?_ ?_) | (refine WP.cond rfl ?_ ?_ <;> intro hcond) | refine rb ?_ | refine nd ?_ | refine dk ?_ | fail)
  refine WP.loop (ι := Nat) (fun k => ⟨[(0, .fv (slOf encFl l)), (1, .fv (slOf encFl l)), (5, .fv (.int .i64 k))], []⟩) (fun k => k ≤ l.length) (fun k => l.length - k) 0 (by omega) ?_ ?_
  · skip
    refine St.le_of ?_ ?_ <;> (repeat' (first | exact trivial | refine ⟨⟨_, rfl, .refl _⟩, ?_⟩ | refine ⟨⟨_, rfl, .any _⟩, ?_⟩ | refine ⟨⟨_, rfl, .of_eq ?_⟩, ?_⟩ | refine ⟨⟨_, rfl, fun _ _ _ _ h => h⟩, ?_⟩ | fail))
  rintro k hk
  try dsimp only
  by_cases hlt : k < l.length
  case neg =>
    repeat' (first | refine X.loc ?_ | refine nx ?_ | refine X.cdT ?_ | refine X.cdF ?_ | (refine WP.condBit rfl ?_ ?_) | (refine WP.cond rfl ?_ ?_ <;> intro hcond) | refine rb ?_ | refine nd ?_ | refine dk ?_ | fail)
    exact .f1 (.inl rfl) rfl rfl
  case pos =>
    obtain ⟨x, hx⟩ : ∃ x, l[k]? = some x := ⟨_, List.getElem?_eq_getElem hlt⟩
    have hxf := hf x (List.mem_of_getElem? hx)
    have c1 := sameMx_T x.ms
    have c2 := sameDx_T x.ds
    unfold Fl.Fit at hxf
    specialize c1 (by omega)
    specialize c2 (by omega)
    repeat' (first | (apply X.loE; (· exact aR); (· first | exact .callL rfl rfl rfl (by first | exact c1 | exact c2) rfl | exact bl (c1) | exact bl (c2))) | refine X.loc ?_ | refine nx ?_ | refine X.cdT ?_ | refine X.cdF ?_ | (refine WP.condBit rfl ?_ ?_) | (refine WP.cond rfl ?_ ?_ <;> intro hcond) | (apply X.gsE; (· exact aR); (· exact aV); (· exact aW); (· intro hc; first | exact .callG rfl rfl rfl (by first | exact c1 | exact c2) rfl | exact bg (c1) | exact bg (c2)); (· exact aR)) | refine rb ?_ | refine nd ?_ | refine dk ?_ | fail)
    · exfalso
      simp at hcond
    refine ⟨k + 1, by omega, by omega, ?_⟩
    try dsimp only
    refine St.le_of ?_ ?_ <;> (repeat' (first | exact trivial | refine ⟨⟨_, rfl, .refl _⟩, ?_⟩ | refine ⟨⟨_, rfl, .any _⟩, ?_⟩ | refine ⟨⟨_, rfl, .of_eq ?_⟩, ?_⟩ | refine ⟨⟨_, rfl, fun _ _ _ _ h => h⟩, ?_⟩ | fail))
end Go.Proofs.Ytmidechdlbcepaa

namespace Go.Proofs.Ytmidechdlbcepaa
open Go.ChangeShapes Go.WideShapes Go.ChangeAt Go.RowKit
set_option maxRecDepth 100000

theorem pm_bound {α β : Type} {f : α → List β} {n : Nat} : ∀ {l : List α}, (∀ x ∈ l, (f x).length ≤ n) → (l.flatMap f).length ≤ n * l.length
  | [], _ => by simp
  | a :: l, h => by
    rw [List.flatMap_cons, List.length_append, List.length_cons, Nat.mul_succ]
    have h1 := h a (by simp)
    have h2 := pm_bound (f := f) (n := n) (l := l) fun x hx => h x (by simp [hx])
    omega
theorem pm_len (c : Cf) (hc : CfOk c) (ch id : Int) (f : Fr) : (ledF c ch id f).length ≤ 1000 := by
  have hpl := hc.pl
  unfold ledF
  split
  · simp
  · split
    · simp
    · split
      · unfold askG
        split
        · simp
        · split <;> simp
      · rename_i p _ _ _
        unfold dataG
        split
        · simp
        · have := pm_bound (f := goalQ c p f) (n := 2) (l := c.ps) fun q _ => goalQ_len c p f q
          omega
set_option maxHeartbeats 8000000 in
theorem pipeMeans_T (c : Cf) (ch id : Int) (f : Fr) (n t : Int) (hl : c.Small) : Fun Try.prog 3 [.agg ((encCf c).map .fv), .fv (.int .i64 ch), .fv (.int .i64 id), .agg ((encFr f).map .fv), .fv (.int .i64 n), .fv (.int .i64 t)] (.fv (.bool true)) := by
  have c1 := compile_T c ch hl
  have c2 := confMay_T c hl
  cases hm : cfMay c with
  | false =>
    have e1 : compE c ch = 8 := by unfold compE; rw [if_pos hm]
    have e2 : compR c ch = [] := by unfold compR; rw [e1, if_pos (by decide)]
    rw [e1, e2] at c1
    rw [hm] at c2
    refine Fun.body tbl_ok Try.func3 rfl (by kernel_rfl) rfl rfl rfl ?_
    repeat' (first | (apply X.loE; (· exact aR); (· first | exact .callL rfl rfl rfl (by first | exact c1 | exact c2) rfl | exact bl (c1) | exact bl (c2))) | refine X.loc ?_ | refine nx ?_ | refine X.cdT ?_ | refine X.cdF ?_ | (refine WP.condBit rfl ?_ ?_) | (refine WP.cond rfl ?_ ?_ <;> intro hcond) | (apply X.gsE; (· exact aR); (· exact aV); (· exact aW); (· intro hc; first | exact .callG rfl rfl rfl (by first | exact c1 | exact c2) rfl | exact bg (c1) | exact bg (c2)); (· exact aR)) | refine rb ?_ | refine nd ?_ | refine dk ?_ | fail)
    exact .f1 (.inl rfl) rfl rfl
  | true =>
    have hc := cfMay_iff.1 hm
    rw [hm] at c2
    have i1 := in_T ch 0 5
    by_cases hch : 0 ≤ ch ∧ ch ≤ 5
    case neg =>
      have e1 : compE c ch = 2 := by unfold compE; rw [if_neg (by rw [hm]; simp), if_pos (by omega)]
      have e2 : compR c ch = [] := by unfold compR; rw [e1, if_pos (by decide)]
      rw [e1, e2] at c1
      have e3 : inR ch 0 5 = false := by
        rw [Bool.eq_false_iff]
        intro h
        exact hch (inR_iff.1 h)
      rw [e3] at i1
      refine Fun.body tbl_ok Try.func3 rfl (by kernel_rfl) rfl rfl rfl ?_
      repeat' (first | (apply X.loE; (· exact aR); (· first | exact .callL rfl rfl rfl (by first | exact c1 | exact c2 | exact i1) rfl | exact bl (c1) | exact bl (c2) | exact bl (i1))) | refine X.loc ?_ | refine nx ?_ | refine X.cdT ?_ | refine X.cdF ?_ | (refine WP.condBit rfl ?_ ?_) | (refine WP.cond rfl ?_ ?_ <;> intro hcond) | (apply X.gsE; (· exact aR); (· exact aV); (· exact aW); (· intro hc; first | exact .callG rfl rfl rfl (by first | exact c1 | exact c2 | exact i1) rfl | exact bg (c1) | exact bg (c2) | exact bg (i1)); (· exact aR)) | refine rb ?_ | refine nd ?_ | refine dk ?_ | fail)
      exact .f1 (.inl rfl) rfl rfl
    case pos =>
      rw [compE_ok hc hch, compR_ok hc hch] at c1
      rw [inR_iff.2 hch] at i1
      have hroom := comp_room hc hch
      have c3 := sortedOf_F (compF_ c ch) hroom.fit (by have := comp_len (ch := ch) hc; omega)
      rw [sortedF_id (comp_strict c ch)] at c3
      have c4 := FlowsFault_T (compF_ c ch)
      rw [comp_fault hc hch] at c4
      have c5 := sameFl_T (compF_ c ch) hroom.fit (by have := comp_len (ch := ch) hc; omega)
      have c6 := frameFault_T f
      have i2 := in_T id 1 65535
      have i3 := in_T n 0 65535
      have i4 := in_T t 0 65535
      by_cases hgood : frameFault f = 0 ∧ (1 ≤ id ∧ id ≤ 65535) ∧ (0 ≤ n ∧ n ≤ 65535) ∧ (0 ≤ t ∧ t ≤ 65535)
      case neg =>
        have hb : ((((frameFault f != 0) || !inR id 1 65535) || !inR n 0 65535) || !inR t 0 65535) = true := by
          cases hx : ((((frameFault f != 0) || !inR id 1 65535) || !inR n 0 65535) || !inR t 0 65535) with
          | true => rfl
          | false =>
            exfalso
            simp only [Bool.or_eq_false_iff, bne_eq_false_iff_eq, Bool.not_eq_false', inR_iff] at hx
            exact hgood ⟨hx.1.1.1, hx.1.1.2, hx.1.2, hx.2⟩
        generalize frameFault f = e at *
        generalize inR id 1 65535 = b1 at *
        generalize inR n 0 65535 = b2 at *
        generalize inR t 0 65535 = b3 at *
        generalize compF_ c ch = M at *
        refine Fun.body tbl_ok Try.func3 rfl (by kernel_rfl) rfl rfl rfl ?_
        repeat' (first | (apply X.loE; (· exact aR); (· first | exact .callL rfl rfl rfl (by first | exact c1 | exact c2 | exact c3 | exact c4 | exact c5 | exact c6 | exact i1 | exact i2 | exact i3 | exact i4) rfl | exact bl (c1) | exact bl (c2) | exact bl (c3) | exact bl (c4) | exact bl (c5) | exact bl (c6) | exact bl (i1) | exact bl (i2) | exact bl (i3) | exact bl (i4))) | refine X.loc ?_ | (refine X.cdT ?_ rfl hb) | refine nx ?_ | refine X.cdT ?_ | refine X.cdF ?_ | (refine WP.condBit rfl ?_ ?_) | (refine WP.cond rfl ?_ ?_ <;> intro hcond) | (apply X.gsE; (· exact aR); (· exact aV); (· exact aW); (· intro hc; first | exact .callG rfl rfl rfl (by first | exact c1 | exact c2 | exact c3 | exact c4 | exact c5 | exact c6 | exact i1 | exact i2 | exact i3 | exact i4) rfl | exact bg (c1) | exact bg (c2) | exact bg (c3) | exact bg (c4) | exact bg (c5) | exact bg (c6) | exact bg (i1) | exact bg (i2) | exact bg (i3) | exact bg (i4)); (· exact aR)) | refine rb ?_ | refine nd ?_ | refine dk ?_ | fail)
        exact .f1 (.inl rfl) rfl rfl
      case pos =>
        obtain ⟨hff, hid, hn, ht⟩ := hgood
        rw [hff] at c6
        rw [inR_iff.2 hid] at i2
        rw [inR_iff.2 hn] at i3
        rw [inR_iff.2 ht] at i4
        have hf := frMay hff
        have hG : ∀ g ∈ ledF c ch id f, GlOk c g := fun g hg => led_ok hc hch hff hg
        have hGl := pm_len c hc ch id f
        have hS := led_sent hc hch.1 hff hid
        have hSl : (ranOf (compF_ c ch) (pkOf f id 0 0)).length ≤ 1000 := by
          rw [hS]
          exact Nat.le_trans (List.length_filterMap_le _ _) hGl
        have r1 := (ran_ok (comp_fault hc hch) (packet_ok hf (i := id) (n := 0) (t := 0) (by omega) (by omega) (by omega))).1
        have m1 := means_T (compF_ c ch) c hc ch id f hf r1 hSl hGl (fun g hg => frMay (hG g hg).is) (means_all hc hch hff hid hG)
        by_cases hk : f.kind = 1
        case pos =>
          generalize compF_ c ch = M at *
          refine Fun.body tbl_ok Try.func3 rfl (by kernel_rfl) rfl rfl rfl ?_
          repeat' (first | (apply X.loE; (· exact aR); (· first | exact .callL rfl rfl rfl (by first | exact c1 | exact c2 | exact c3 | exact c4 | exact c5 | exact c6 | exact i1 | exact i2 | exact i3 | exact i4 | exact m1) rfl | exact bl (c1) | exact bl (c2) | exact bl (c3) | exact bl (c4) | exact bl (c5) | exact bl (c6) | exact bl (i1) | exact bl (i2) | exact bl (i3) | exact bl (i4) | exact bl (m1))) | refine X.loc ?_ | (refine X.cdT ?_ rfl (by rw [hk]; rfl)) | refine nx ?_ | refine X.cdT ?_ | refine X.cdF ?_ | (refine WP.condBit rfl ?_ ?_) | (refine WP.cond rfl ?_ ?_ <;> intro hcond) | (apply X.gsE; (· exact aR); (· exact aV); (· exact aW); (· intro hc; first | exact .callG rfl rfl rfl (by first | exact c1 | exact c2 | exact c3 | exact c4 | exact c5 | exact c6 | exact i1 | exact i2 | exact i3 | exact i4 | exact m1) rfl | exact bg (c1) | exact bg (c2) | exact bg (c3) | exact bg (c4) | exact bg (c5) | exact bg (c6) | exact bg (i1) | exact bg (i2) | exact bg (i3) | exact bg (i4) | exact bg (m1)); (· exact aR)) | refine rb ?_ | refine nd ?_ | refine dk ?_ | fail)
          exact .f1 (.inl rfl) rfl rfl
        case neg =>
          have r2 := (ran_ok (comp_fault hc hch) (packet_ok hf (i := 0) (n := n) (t := t) (by omega) hn ht)).1
          have m2 := lcomes_T (compF_ c ch) c hc ch n t f hf r2 (come_sent hc ch hf hn ht hk)
          generalize compF_ c ch = M at *
          refine Fun.body tbl_ok Try.func3 rfl (by kernel_rfl) rfl rfl rfl ?_
          have hkb : (f.kind == 1) = false := by simp [hk]
          repeat' (first | (apply X.loE; (· exact aR); (· first | exact .callL rfl rfl rfl (by first | exact c1 | exact c2 | exact c3 | exact c4 | exact c5 | exact c6 | exact i1 | exact i2 | exact i3 | exact i4 | exact m1 | exact m2) rfl | exact bl (c1) | exact bl (c2) | exact bl (c3) | exact bl (c4) | exact bl (c5) | exact bl (c6) | exact bl (i1) | exact bl (i2) | exact bl (i3) | exact bl (i4) | exact bl (m1) | exact bl (m2))) | refine X.loc ?_ | (refine X.cdF ?_ rfl hkb) | refine nx ?_ | refine X.cdT ?_ | refine X.cdF ?_ | (refine WP.condBit rfl ?_ ?_) | (refine WP.cond rfl ?_ ?_ <;> intro hcond) | (apply X.gsE; (· exact aR); (· exact aV); (· exact aW); (· intro hc; first | exact .callG rfl rfl rfl (by first | exact c1 | exact c2 | exact c3 | exact c4 | exact c5 | exact c6 | exact i1 | exact i2 | exact i3 | exact i4 | exact m1 | exact m2) rfl | exact bg (c1) | exact bg (c2) | exact bg (c3) | exact bg (c4) | exact bg (c5) | exact bg (c6) | exact bg (i1) | exact bg (i2) | exact bg (i3) | exact bg (i4) | exact bg (m1) | exact bg (m2)); (· exact aR)) | refine rb ?_ | refine nd ?_ | refine dk ?_ | fail)
          exact .f1 (.inl rfl) rfl rfl
theorem pipeMeans_open {H : Type} {enc : TypeId × Value → H} (W : World) (base : Nat) {v0 v1 v2 v3 v4 v5 : Value} {d0 d1 d2 d3 d4 d5 : DataW H} {p0 p1 p2 p3 p4 p5 : List MemPlace} (hv0 : Value.okWide Try.prog W .any base 26 v0)
    (h0 : DataW.Trod enc Try.prog W 0 (fun _ => true) true 26 v0 d0 p0) (hs0 : SizedCl Try.prog 26 d0) (hv1 : Value.okWide Try.prog W .any base 3 v1)
    (h1 : DataW.Trod enc Try.prog W 0 (fun _ => true) true 3 v1 d1 p1) (_hs1 : SizedCl Try.prog 3 d1) (hv2 : Value.okWide Try.prog W .any base 3 v2)
    (h2 : DataW.Trod enc Try.prog W 0 (fun _ => true) true 3 v2 d2 p2) (_hs2 : SizedCl Try.prog 3 d2) (hv3 : Value.okWide Try.prog W .any base 28 v3)
    (h3 : DataW.Trod enc Try.prog W 0 (fun _ => true) true 28 v3 d3 p3) (_hs3 : SizedCl Try.prog 28 d3) (hv4 : Value.okWide Try.prog W .any base 3 v4)
    (h4 : DataW.Trod enc Try.prog W 0 (fun _ => true) true 3 v4 d4 p4) (_hs4 : SizedCl Try.prog 3 d4) (hv5 : Value.okWide Try.prog W .any base 3 v5)
    (h5 : DataW.Trod enc Try.prog W 0 (fun _ => true) true 3 v5 d5 p5) (_hs5 : SizedCl Try.prog 3 d5) : Calls Try.prog 3 #[v0, v1, v2, v3, v4, v5] W fun e W' => e = .returned (.bool true) ∧ Below W.heap.size W W' := by
  obtain ⟨c, _, hl, _, _, _, cs, rfl, hr⟩ := open_cf hv0 h0 hs0
  obtain ⟨ch, rfl, _, _, _⟩ := open_int Try.underlying3 hv1 h1
  obtain ⟨id, rfl, _, _, _⟩ := open_int Try.underlying3 hv2 h2
  obtain ⟨ds, rfl, hds⟩ := open_struct Try.underlying28 frame_leaves hv3 h3
  obtain ⟨f, rfl, hf⟩ := fr_of_ok hds
  obtain ⟨n, rfl, _, _, _⟩ := open_int Try.underlying3 hv4 h4
  obtain ⟨t, rfl, _, _, _⟩ := open_int Try.underlying3 hv5 h5
  exact (pipeMeans_T c ch id f n t hl).yes ⟨rep_agg hr, rfl, rfl, ⟨_, rfl, by simpa using fr_repF hf (fun _ => undef)⟩, rfl, rfl, trivial⟩
end Go.Proofs.Ytmidechdlbcepaa
