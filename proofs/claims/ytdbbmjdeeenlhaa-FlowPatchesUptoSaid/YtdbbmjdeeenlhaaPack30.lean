/- Flows in their places, and differences: the document's answers. -/
import Derived.Test.YtdbbmjdeeenlhaaPack29
import Derived.Test.YtdbbmjdeeenlhaaPack22
set_option linter.unusedSimpArgs false
set_option linter.unusedVariables false
namespace Go.Proofs.Ytdbbmjdeeenlhaa
open Go.RowKit
set_option maxRecDepth 100000

def cmpM : List Int → List Int → Int
  | a :: l, b :: m => if a < b then -1 else if a > b then 1 else cmpM l m
  | l, m => (l.length : Int) - (m.length : Int)
theorem cmpM_cmpL : ∀ (l m : List Int), (cmpM l m = 0 ↔ cmpL l m = 0) ∧ (cmpM l m < 0 ↔ cmpL l m < 0)
  | [], [] => by simp [cmpM, cmpL]
  | [], _ :: _ => by simp [cmpM, cmpL]; omega
  | _ :: _, [] => by simp [cmpM, cmpL]; omega
  | a :: l, b :: m => by
    have ih := cmpM_cmpL l m
    unfold cmpM cmpL cmpI
    by_cases h1 : a < b
    · simp [h1]
    · by_cases h2 : b < a
      · simp [h1, h2]
      · simp only [h1, h2, if_false, gt_iff_lt]
        simpa using ih
/-- The numbers that the document holds against each other. -/
def headP (x y : Fl) : List Int := [x.table, y.prio, (x.ms.length : Int), (x.ds.length : Int)]
def numsP (x y : Fl) : List Int := headP x y ++ x.ms.flatMap mx3 ++ x.ds.flatMap dx3
def placesR (x y : Fl) : Int := cmpM (numsP x y) (numsP y x)
theorem placesR_ord (x y : Fl) : (placesR x y = 0 ↔ ordF x y = 0) ∧ (placesR x y < 0 ↔ ordF x y < 0) := by
  have h := cmpM_cmpL (numsP x y) (numsP y x)
  have e : cmpL (numsP x y) (numsP y x) = ordF x y := by
    unfold numsP headP ordF keyOf numsOf
    simp only [List.cons_append, List.nil_append, cmpL, cmpI_swap]
  rw [e] at h
  exact h
set_option maxHeartbeats 40000000 in
theorem places_T (a b : Fl) (ha : a.Fit) (hb : b.Fit) : Fun Try.prog 79 [.agg ((encFl a).map .fv), .agg ((encFl b).map .fv)] (.fv (.int .i64 (placesR a b))) := by
  unfold Fl.Fit at ha hb
  refine Fun.body tbl_ok Try.func79 rfl (by kernel_rfl) rfl rfl rfl ?_
  repeat' (first
    | refine X.loc ?_
    | refine nx ?_
    | (refine WP.condBit rfl ?_ ?_)
    | (refine WP.cond rfl ?_ ?_ <;> intro hcond)
    | refine X.gst ?_ | refine X.gld ?_ | refine X.new ?_ | refine X.app ?_ | refine X.appS ?_ | refine X.stoW ?_ | refine X.stoB ?_ | refine X.stoR ?_ | refine X.gand ?_ | refine X.gor ?_
    | refine nd ?_
    | ((with_reducible apply drwK.mk); (· kernel_rfl); (· exact aF))
    | fail)
  refine WP.loop (ι := Nat) (fun k => ⟨[(2, .optr 2 0), (3, .optr 3 0), (7, .fv (.int .i64 k)), (5, .osl 905), (6, .osl 906)], [(2, .box 36 ((encFl a).map .fv)), (3, .box 36 ((encFl b).map .fv)), (905, .row 3 1 (4 + 3 * k) (((headP a b ++ (a.ms.take k).flatMap mx3).flatMap encI).map .fv)), (906, .row 3 1 4 (((headP b a).flatMap encI).map .fv))]⟩) (fun k => k ≤ a.ms.length) (fun k => a.ms.length - k) 0 (by omega) ?_ ?_
  · skip
    refine St.to [(905, .id 22), (906, .id 33)] [] rfl rfl ?_ ?_ <;> (repeat' (first | exact tA | refine t1 ?_ | exact tB | refine t2 ?_ ?_ | refine t3 ?_ | refine t4 ?_ ?_ | refine .ofEq ?_ | refine OB.To.cut rfl rfl ?_ ?_ ?_ ?_ | refine OB.To.box rfl rfl ?_ | refine ⟨⟨_, rfl, ?_⟩, ?_⟩ | refine ⟨?_, ?_⟩ | fail))
  rintro k hk
  try dsimp only
  by_cases hlt : k < a.ms.length
  case pos =>
    obtain ⟨x, hx⟩ : ∃ x, a.ms[k]? = some x := ⟨_, List.getElem?_eq_getElem hlt⟩
    have hs : headP a b ++ (a.ms.take (k + 1)).flatMap mx3 = (headP a b ++ (a.ms.take k).flatMap mx3) ++ [x.field, x.mask, x.value] := by
      rw [take_succ hx]
      simp [mx3]
    generalize headP a b ++ (a.ms.take k).flatMap mx3 = L at *
    repeat' (first
      | refine X.loc ?_
      | refine nx ?_
      | refine X.cdT ?_
      | refine X.cdF ?_
      | (refine WP.condBit rfl ?_ ?_)
      | (refine WP.cond rfl ?_ ?_ <;> intro hcond)
      | refine X.gst ?_ | refine X.gld ?_ | refine X.new ?_ | refine X.app ?_ | refine X.appS ?_ | refine X.stoW ?_ | refine X.stoB ?_ | refine X.stoR ?_ | refine X.gand ?_ | refine X.gor ?_
      | refine nd ?_
      | ((with_reducible apply drwK.mk); (· kernel_rfl); (· exact aF))
      | fail)
    refine ⟨k + 1, by omega, by omega, ?_⟩
    try dsimp only
    rw [hs]
    refine St.to [(905, .id 61)] [] rfl rfl ?_ ?_ <;> (repeat' (first | exact tA | refine t1 ?_ | exact tB | refine t2 ?_ ?_ | refine t3 ?_ | refine t4 ?_ ?_ | refine .ofEq ?_ | refine OB.To.cut rfl rfl ?_ ?_ ?_ ?_ | refine OB.To.box rfl rfl ?_ | refine ⟨⟨_, rfl, ?_⟩, ?_⟩ | refine ⟨?_, ?_⟩ | fail))
    all_goals first | omega | (simp; done) | (simp; omega) | (simp only [List.flatMap_append, List.map_append]; rfl)
  case neg =>
    obtain rfl : k = a.ms.length := by omega
    rw [List.take_length]
    have hX1 : headP a b ++ a.ms.flatMap mx3 = headP a b ++ a.ms.flatMap mx3 := rfl
    repeat' (first
      | refine X.loc ?_
      | refine nx ?_
      | refine X.cdT ?_
      | refine X.cdF ?_
      | (refine WP.condBit rfl ?_ ?_)
      | (refine WP.cond rfl ?_ ?_ <;> intro hcond)
      | refine X.gst ?_ | refine X.gld ?_ | refine X.new ?_ | refine X.app ?_ | refine X.appS ?_ | refine X.stoW ?_ | refine X.stoB ?_ | refine X.stoR ?_ | refine X.gand ?_ | refine X.gor ?_
      | refine nd ?_
      | ((with_reducible apply drwK.mk); (· kernel_rfl); (· exact aF))
      | fail)
    refine WP.loop (ι := Nat) (fun k => ⟨[(2, .optr 2 0), (3, .optr 3 0), (5, .osl 905), (6, .osl 906), (8, .fv (.int .i64 k))], [(2, .box 36 ((encFl a).map .fv)), (3, .box 36 ((encFl b).map .fv)), (905, .row 3 1 (4 + 3 * a.ms.length) (((headP a b ++ a.ms.flatMap mx3).flatMap encI).map .fv)), (906, .row 3 1 (4 + 3 * k) (((headP b a ++ (b.ms.take k).flatMap mx3).flatMap encI).map .fv))]⟩) (fun k => k ≤ b.ms.length) (fun k => b.ms.length - k) 0 (by omega) ?_ ?_
    · skip
      refine St.to [] [] rfl rfl ?_ ?_ <;> (repeat' (first | exact tA | refine t1 ?_ | exact tB | refine t2 ?_ ?_ | refine t3 ?_ | refine t4 ?_ ?_ | refine .ofEq ?_ | refine OB.To.cut rfl rfl ?_ ?_ ?_ ?_ | refine OB.To.box rfl rfl ?_ | refine ⟨⟨_, rfl, ?_⟩, ?_⟩ | refine ⟨?_, ?_⟩ | fail))
    rintro k hk
    try dsimp only
    by_cases hlt : k < b.ms.length
    case pos =>
      obtain ⟨x, hx⟩ : ∃ x, b.ms[k]? = some x := ⟨_, List.getElem?_eq_getElem hlt⟩
      have hs : headP b a ++ (b.ms.take (k + 1)).flatMap mx3 = (headP b a ++ (b.ms.take k).flatMap mx3) ++ [x.field, x.mask, x.value] := by
        rw [take_succ hx]
        simp [mx3]
      generalize headP b a ++ (b.ms.take k).flatMap mx3 = L at *
      generalize headP a b ++ a.ms.flatMap mx3 = L1 at *
      repeat' (first
        | refine X.loc ?_
        | refine nx ?_
        | refine X.cdT ?_
        | refine X.cdF ?_
        | (refine WP.condBit rfl ?_ ?_)
        | (refine WP.cond rfl ?_ ?_ <;> intro hcond)
        | refine X.gst ?_ | refine X.gld ?_ | refine X.new ?_ | refine X.app ?_ | refine X.appS ?_ | refine X.stoW ?_ | refine X.stoB ?_ | refine X.stoR ?_ | refine X.gand ?_ | refine X.gor ?_
        | refine nd ?_
        | ((with_reducible apply drwK.mk); (· kernel_rfl); (· exact aF))
        | fail)
      refine ⟨k + 1, by omega, by omega, ?_⟩
      try dsimp only
      rw [hs]
      refine St.to [(906, .id 89)] [] rfl rfl ?_ ?_ <;> (repeat' (first | exact tA | refine t1 ?_ | exact tB | refine t2 ?_ ?_ | refine t3 ?_ | refine t4 ?_ ?_ | refine .ofEq ?_ | refine OB.To.cut rfl rfl ?_ ?_ ?_ ?_ | refine OB.To.box rfl rfl ?_ | refine ⟨⟨_, rfl, ?_⟩, ?_⟩ | refine ⟨?_, ?_⟩ | fail))
      all_goals first | omega | (simp; done) | (simp; omega) | (simp only [List.flatMap_append, List.map_append]; rfl)
    case neg =>
      obtain rfl : k = b.ms.length := by omega
      rw [List.take_length]
      repeat' (first
        | refine X.loc ?_
        | refine nx ?_
        | refine X.cdT ?_
        | refine X.cdF ?_
        | (refine WP.condBit rfl ?_ ?_)
        | (refine WP.cond rfl ?_ ?_ <;> intro hcond)
        | refine X.gst ?_ | refine X.gld ?_ | refine X.new ?_ | refine X.app ?_ | refine X.appS ?_ | refine X.stoW ?_ | refine X.stoB ?_ | refine X.stoR ?_ | refine X.gand ?_ | refine X.gor ?_
        | refine nd ?_
        | ((with_reducible apply drwK.mk); (· kernel_rfl); (· exact aF))
        | fail)
      refine WP.loop (ι := Nat) (fun k => ⟨[(2, .optr 2 0), (3, .optr 3 0), (5, .osl 905), (6, .osl 906), (9, .fv (.int .i64 k))], [(2, .box 36 ((encFl a).map .fv)), (3, .box 36 ((encFl b).map .fv)), (905, .row 3 1 (4 + 3 * a.ms.length + 3 * k) (((headP a b ++ a.ms.flatMap mx3 ++ (a.ds.take k).flatMap dx3).flatMap encI).map .fv)), (906, .row 3 1 (4 + 3 * b.ms.length) (((headP b a ++ b.ms.flatMap mx3).flatMap encI).map .fv))]⟩) (fun k => k ≤ a.ds.length) (fun k => a.ds.length - k) 0 (by omega) ?_ ?_
      · rw [List.take_zero, List.flatMap_nil, List.append_nil]
        refine St.to [] [] rfl rfl ?_ ?_ <;> (repeat' (first | exact tA | refine t1 ?_ | exact tB | refine t2 ?_ ?_ | refine t3 ?_ | refine t4 ?_ ?_ | refine .ofEq ?_ | refine OB.To.cut rfl rfl ?_ ?_ ?_ ?_ | refine OB.To.box rfl rfl ?_ | refine ⟨⟨_, rfl, ?_⟩, ?_⟩ | refine ⟨?_, ?_⟩ | fail))
        all_goals omega
      rintro k hk
      try dsimp only
      by_cases hlt : k < a.ds.length
      case pos =>
        obtain ⟨x, hx⟩ : ∃ x, a.ds[k]? = some x := ⟨_, List.getElem?_eq_getElem hlt⟩
        have hs : headP a b ++ a.ms.flatMap mx3 ++ (a.ds.take (k + 1)).flatMap dx3 = (headP a b ++ a.ms.flatMap mx3 ++ (a.ds.take k).flatMap dx3) ++ [x.kind, x.a, x.n] := by
          rw [take_succ hx]
          simp [dx3]
        generalize headP a b ++ a.ms.flatMap mx3 ++ (a.ds.take k).flatMap dx3 = L at *
        generalize headP b a ++ b.ms.flatMap mx3 = L1 at *
        repeat' (first
          | refine X.loc ?_
          | refine nx ?_
          | refine X.cdT ?_
          | refine X.cdF ?_
          | (refine WP.condBit rfl ?_ ?_)
          | (refine WP.cond rfl ?_ ?_ <;> intro hcond)
          | refine X.gst ?_ | refine X.gld ?_ | refine X.new ?_ | refine X.app ?_ | refine X.appS ?_ | refine X.stoW ?_ | refine X.stoB ?_ | refine X.stoR ?_ | refine X.gand ?_ | refine X.gor ?_
          | refine nd ?_
          | ((with_reducible apply drwK.mk); (· kernel_rfl); (· exact aF))
          | fail)
        refine ⟨k + 1, by omega, by omega, ?_⟩
        try dsimp only
        rw [hs]
        refine St.to [(905, .id 117)] [] rfl rfl ?_ ?_ <;> (repeat' (first | exact tA | refine t1 ?_ | exact tB | refine t2 ?_ ?_ | refine t3 ?_ | refine t4 ?_ ?_ | refine .ofEq ?_ | refine OB.To.cut rfl rfl ?_ ?_ ?_ ?_ | refine OB.To.box rfl rfl ?_ | refine ⟨⟨_, rfl, ?_⟩, ?_⟩ | refine ⟨?_, ?_⟩ | fail))
        all_goals first | omega | (simp; done) | (simp; omega) | (simp only [List.flatMap_append, List.map_append]; rfl)
      case neg =>
        obtain rfl : k = a.ds.length := by omega
        rw [List.take_length]
        have hn : headP a b ++ a.ms.flatMap mx3 ++ a.ds.flatMap dx3 = numsP a b := rfl
        rw [hn]
        repeat' (first
          | refine X.loc ?_
          | refine nx ?_
          | refine X.cdT ?_
          | refine X.cdF ?_
          | (refine WP.condBit rfl ?_ ?_)
          | (refine WP.cond rfl ?_ ?_ <;> intro hcond)
          | refine X.gst ?_ | refine X.gld ?_ | refine X.new ?_ | refine X.app ?_ | refine X.appS ?_ | refine X.stoW ?_ | refine X.stoB ?_ | refine X.stoR ?_ | refine X.gand ?_ | refine X.gor ?_
          | refine nd ?_
          | ((with_reducible apply drwK.mk); (· kernel_rfl); (· exact aF))
          | fail)
        refine WP.loop (ι := Nat) (fun k => ⟨[(2, .optr 2 0), (3, .optr 3 0), (5, .osl 905), (6, .osl 906), (10, .fv (.int .i64 k))], [(2, .box 36 ((encFl a).map .fv)), (3, .box 36 ((encFl b).map .fv)), (905, .row 3 1 (4 + 3 * a.ms.length + 3 * a.ds.length) (((numsP a b).flatMap encI).map .fv)), (906, .row 3 1 (4 + 3 * b.ms.length + 3 * k) (((headP b a ++ b.ms.flatMap mx3 ++ (b.ds.take k).flatMap dx3).flatMap encI).map .fv))]⟩) (fun k => k ≤ b.ds.length) (fun k => b.ds.length - k) 0 (by omega) ?_ ?_
        · rw [List.take_zero, List.flatMap_nil, List.append_nil]
          refine St.to [] [] rfl rfl ?_ ?_ <;> (repeat' (first | exact tA | refine t1 ?_ | exact tB | refine t2 ?_ ?_ | refine t3 ?_ | refine t4 ?_ ?_ | refine .ofEq ?_ | refine OB.To.cut rfl rfl ?_ ?_ ?_ ?_ | refine OB.To.box rfl rfl ?_ | refine ⟨⟨_, rfl, ?_⟩, ?_⟩ | refine ⟨?_, ?_⟩ | fail))
          all_goals omega
        rintro k hk
        try dsimp only
        by_cases hlt : k < b.ds.length
        case pos =>
          obtain ⟨x, hx⟩ : ∃ x, b.ds[k]? = some x := ⟨_, List.getElem?_eq_getElem hlt⟩
          have hs : headP b a ++ b.ms.flatMap mx3 ++ (b.ds.take (k + 1)).flatMap dx3 = (headP b a ++ b.ms.flatMap mx3 ++ (b.ds.take k).flatMap dx3) ++ [x.kind, x.a, x.n] := by
            rw [take_succ hx]
            simp [dx3]
          generalize headP b a ++ b.ms.flatMap mx3 ++ (b.ds.take k).flatMap dx3 = L at *
          generalize numsP a b = L1 at *
          repeat' (first
            | refine X.loc ?_
            | refine nx ?_
            | refine X.cdT ?_
            | refine X.cdF ?_
            | (refine WP.condBit rfl ?_ ?_)
            | (refine WP.cond rfl ?_ ?_ <;> intro hcond)
            | refine X.gst ?_ | refine X.gld ?_ | refine X.new ?_ | refine X.app ?_ | refine X.appS ?_ | refine X.stoW ?_ | refine X.stoB ?_ | refine X.stoR ?_ | refine X.gand ?_ | refine X.gor ?_
            | refine nd ?_
            | ((with_reducible apply drwK.mk); (· kernel_rfl); (· exact aF))
            | fail)
          refine ⟨k + 1, by omega, by omega, ?_⟩
          try dsimp only
          rw [hs]
          refine St.to [(906, .id 145)] [] rfl rfl ?_ ?_ <;> (repeat' (first | exact tA | refine t1 ?_ | exact tB | refine t2 ?_ ?_ | refine t3 ?_ | refine t4 ?_ ?_ | refine .ofEq ?_ | refine OB.To.cut rfl rfl ?_ ?_ ?_ ?_ | refine OB.To.box rfl rfl ?_ | refine ⟨⟨_, rfl, ?_⟩, ?_⟩ | refine ⟨?_, ?_⟩ | fail))
          all_goals first | omega | (simp; done) | (simp; omega) | (simp only [List.flatMap_append, List.map_append]; rfl)
        case neg =>
          obtain rfl : k = b.ds.length := by omega
          rw [List.take_length]
          have hn : headP b a ++ b.ms.flatMap mx3 ++ b.ds.flatMap dx3 = numsP b a := rfl
          rw [hn]
          have hl1 : (numsP a b).length = 4 + 3 * a.ms.length + 3 * a.ds.length := by
            unfold numsP headP
            rw [List.length_append, List.length_append, flat_len (s := 3) (fun _ => rfl), flat_len (s := 3) (fun _ => rfl)]
            rfl
          have hl2 : (numsP b a).length = 4 + 3 * b.ms.length + 3 * b.ds.length := by
            unfold numsP headP
            rw [List.length_append, List.length_append, flat_len (s := 3) (fun _ => rfl), flat_len (s := 3) (fun _ => rfl)]
            rfl
          have hR : placesR a b = cmpM (numsP a b) (numsP b a) := rfl
          rw [hR, ← hl1, ← hl2]
          generalize numsP a b = U at *
          generalize numsP b a = V at *
          repeat' (first
            | refine X.loc ?_
            | refine nx ?_
            | refine X.cdT ?_
            | refine X.cdF ?_
            | (refine WP.condBit rfl ?_ ?_)
            | (refine WP.cond rfl ?_ ?_ <;> intro hcond)
            | refine X.gst ?_ | refine X.gld ?_ | refine X.new ?_ | refine X.app ?_ | refine X.appS ?_ | refine X.stoW ?_ | refine X.stoB ?_ | refine X.stoR ?_ | refine X.gand ?_ | refine X.gor ?_
            | refine nd ?_
            | ((with_reducible apply drwK.mk); (· kernel_rfl); (· exact aF))
            | fail)
          refine WP.loop (ι := Nat) (fun k => ⟨[(5, .fv (slOf encI U)), (6, .fv (slOf encI V)), (11, .fv (.int .i64 k))], []⟩) (fun k => k ≤ U.length ∧ k ≤ V.length ∧ cmpM U V = cmpM (U.drop k) (V.drop k)) (fun k => U.length - k) 0 ⟨by omega, by omega, rfl⟩ ?_ ?_
          · skip
            refine St.to [] [905, 906] rfl rfl ?_ ?_ <;> (repeat' (first | exact tA | refine t1 ?_ | exact tB | refine t2 ?_ ?_ | refine t3 ?_ | refine t4 ?_ ?_ | refine .ofEq ?_ | refine OB.To.cut rfl rfl ?_ ?_ ?_ ?_ | refine OB.To.box rfl rfl ?_ | refine ⟨⟨_, rfl, ?_⟩, ?_⟩ | refine ⟨?_, ?_⟩ | fail))
          rintro k ⟨hk, hkm, he⟩
          try dsimp only
          by_cases hlt : k < U.length ∧ k < V.length
          case neg =>
            have e : cmpM U V = (U.length : Int) - (V.length : Int) := by
              rw [he]
              rcases Nat.lt_or_ge k U.length with h | h
              · rw [List.drop_eq_nil_of_le (show V.length ≤ k by omega)]
                obtain ⟨y, r, hy⟩ : ∃ y r, U.drop k = y :: r := ⟨_, _, List.drop_eq_getElem_cons h⟩
                rw [hy, cmpM, ← hy, List.length_drop]
                · simp; omega
                · intro a l b m h1 h2; cases h2
              · rw [List.drop_eq_nil_of_le h, cmpM]
                · rw [List.length_drop]; simp; omega
                · intro a l b m h1 h2; cases h1
            rw [e]
            repeat' (first
              | refine X.loc ?_
              | refine nx ?_
              | refine X.cdT ?_
              | refine X.cdF ?_
              | (refine WP.condBit rfl ?_ ?_)
              | (refine WP.cond rfl ?_ ?_ <;> intro hcond)
              | refine X.gst ?_ | refine X.gld ?_ | refine X.new ?_ | refine X.app ?_ | refine X.appS ?_ | refine X.stoW ?_ | refine X.stoB ?_ | refine X.stoR ?_ | refine X.gand ?_ | refine X.gor ?_
              | refine nd ?_
              | ((with_reducible apply drwK.mk); (· kernel_rfl); (· exact aF))
              | fail)
            exact .f1 (.inl rfl) rfl rfl
          case pos =>
            obtain ⟨x, hx⟩ : ∃ x, U[k]? = some x := ⟨_, List.getElem?_eq_getElem hlt.1⟩
            obtain ⟨y, hy⟩ : ∃ y, V[k]? = some y := ⟨_, List.getElem?_eq_getElem hlt.2⟩
            have hdx : U.drop k = x :: U.drop (k + 1) := by rw [List.drop_eq_getElem_cons hlt.1, (List.getElem?_eq_some_iff.1 hx).2]
            have hdy : V.drop k = y :: V.drop (k + 1) := by rw [List.drop_eq_getElem_cons hlt.2, (List.getElem?_eq_some_iff.1 hy).2]
            rw [hdx, hdy, cmpM] at he
            by_cases h1 : x < y
            · rw [if_pos h1] at he
              rw [he]
              repeat' (first
                | refine X.loc ?_
                | refine nx ?_
                | refine X.cdT ?_
                | refine X.cdF ?_
                | (refine WP.condBit rfl ?_ ?_)
                | (refine WP.cond rfl ?_ ?_ <;> intro hcond)
                | refine X.gst ?_ | refine X.gld ?_ | refine X.new ?_ | refine X.app ?_ | refine X.appS ?_ | refine X.stoW ?_ | refine X.stoB ?_ | refine X.stoR ?_ | refine X.gand ?_ | refine X.gor ?_
                | refine nd ?_
                | ((with_reducible apply drwK.mk); (· kernel_rfl); (· exact aF))
                | fail)
              exact .f1 (.inl rfl) rfl rfl
            · rw [if_neg h1] at he
              by_cases h2 : x > y
              · rw [if_pos h2] at he
                rw [he]
                repeat' (first
                  | refine X.loc ?_
                  | refine nx ?_
                  | refine X.cdT ?_
                  | refine X.cdF ?_
                  | (refine WP.condBit rfl ?_ ?_)
                  | (refine WP.cond rfl ?_ ?_ <;> intro hcond)
                  | refine X.gst ?_ | refine X.gld ?_ | refine X.new ?_ | refine X.app ?_ | refine X.appS ?_ | refine X.stoW ?_ | refine X.stoB ?_ | refine X.stoR ?_ | refine X.gand ?_ | refine X.gor ?_
                  | refine nd ?_
                  | ((with_reducible apply drwK.mk); (· kernel_rfl); (· exact aF))
                  | fail)
                exact .f1 (.inl rfl) rfl rfl
              · rw [if_neg h2] at he
                repeat' (first
                  | refine X.loc ?_
                  | refine nx ?_
                  | refine X.cdT ?_
                  | refine X.cdF ?_
                  | (refine WP.condBit rfl ?_ ?_)
                  | (refine WP.cond rfl ?_ ?_ <;> intro hcond)
                  | refine X.gst ?_ | refine X.gld ?_ | refine X.new ?_ | refine X.app ?_ | refine X.appS ?_ | refine X.stoW ?_ | refine X.stoB ?_ | refine X.stoR ?_ | refine X.gand ?_ | refine X.gor ?_
                  | refine nd ?_
                  | ((with_reducible apply drwK.mk); (· kernel_rfl); (· exact aF))
                  | fail)
                refine ⟨k + 1, ⟨by omega, by omega, he⟩, by omega, ?_⟩
                refine St.to [] [] rfl rfl ?_ ?_ <;> (repeat' (first | exact tA | refine t1 ?_ | exact tB | refine t2 ?_ ?_ | refine t3 ?_ | refine t4 ?_ ?_ | refine .ofEq ?_ | refine OB.To.cut rfl rfl ?_ ?_ ?_ ?_ | refine OB.To.box rfl rfl ?_ | refine ⟨⟨_, rfl, ?_⟩, ?_⟩ | refine ⟨?_, ?_⟩ | fail))
end Go.Proofs.Ytdbbmjdeeenlhaa

/- Flows in their places, and differences: the document's answers, by contracts. -/
namespace Go.Proofs.Ytdbbmjdeeenlhaa
open Go.RowKit
set_option maxRecDepth 100000

set_option maxHeartbeats 2000000 in
theorem flowCopy_T (f : Fl) (hf : f.Fit) : Fun Try.prog 80 [.agg ((encFl f).map .fv)] (.agg ((encFl f).map .fv)) := by
  unfold Fl.Fit at hf
  refine Fun.body tbl_ok Try.func80 rfl (by kernel_rfl) rfl rfl rfl ?_
  repeat' (first
    | refine X.loc ?_
    | refine nx ?_
    | (refine WP.condBit rfl ?_ ?_)
    | (refine WP.cond rfl ?_ ?_ <;> intro hcond)
    | refine X.gst ?_ | refine X.gld ?_ | refine X.new ?_ | refine X.app ?_ | refine X.appS ?_ | refine X.stoW ?_ | refine X.stoB ?_ | refine X.stoR ?_ | refine X.gand ?_ | refine X.gor ?_
    | refine nd ?_
    | ((with_reducible apply drwK.mk); (· kernel_rfl); (· exact aF))
    | fail)
  refine WP.loop (ι := Nat) (fun k => ⟨[(1, .optr 1 0), (2, .optr 2 0), (3, .optr 3 0), (4, .fv (.int .i64 k))], [(1, .box 36 ((encFl f).map .fv)), (2, .box 36 [.fv (.int .i64 0), .fv (.int .i64 0), .nil, .nil]), (3, .box 36 [.fv (.int .i64 f.table), .fv (.int .i64 f.prio), .osl 900, .nil]), (900, .row 30 3 (f.ms.take k).length (((f.ms.take k).flatMap encMx).map .fv))]⟩) (fun k => k ≤ f.ms.length) (fun k => f.ms.length - k) 0 (by omega) ?_ ?_
  · skip
    refine St.to [(900, .nil)] [] rfl rfl ?_ ?_ <;> (repeat' (first | exact tA | refine t1 ?_ | exact tB | refine t2 ?_ ?_ | refine t3 ?_ | refine t4 ?_ ?_ | refine .ofEq ?_ | refine OB.To.cut rfl rfl ?_ ?_ ?_ ?_ | refine OB.To.box rfl rfl ?_ | refine ⟨⟨_, rfl, ?_⟩, ?_⟩ | refine ⟨?_, ?_⟩ | fail))
  rintro k hk
  try dsimp only
  by_cases hlt : k < f.ms.length
  case pos =>
    obtain ⟨x, hx⟩ : ∃ x, f.ms[k]? = some x := ⟨_, List.getElem?_eq_getElem hlt⟩
    have hs := take_succ hx
    have hl : (f.ms.take k).length = k := by rw [List.length_take]; omega
    generalize f.ms.take k = L at *
    repeat' (first
      | refine X.loc ?_
      | refine nx ?_
      | refine X.cdT ?_
      | refine X.cdF ?_
      | (refine WP.condBit rfl ?_ ?_)
      | (refine WP.cond rfl ?_ ?_ <;> intro hcond)
      | refine X.gst ?_ | refine X.gld ?_ | refine X.new ?_ | refine X.app ?_ | refine X.appS ?_ | refine X.stoW ?_ | refine X.stoB ?_ | refine X.stoR ?_ | refine X.gand ?_ | refine X.gor ?_
      | refine nd ?_
      | ((with_reducible apply drwK.mk); (· kernel_rfl); (· exact aF))
      | fail)
    refine ⟨k + 1, by omega, by omega, ?_⟩
    try dsimp only
    rw [hs]
    refine St.to [(900, .id 26)] [] rfl rfl ?_ ?_ <;> (repeat' (first | exact tA | refine t1 ?_ | exact tB | refine t2 ?_ ?_ | refine t3 ?_ | refine t4 ?_ ?_ | refine .ofEq ?_ | refine OB.To.cut rfl rfl ?_ ?_ ?_ ?_ | refine OB.To.box rfl rfl ?_ | refine ⟨⟨_, rfl, ?_⟩, ?_⟩ | refine ⟨?_, ?_⟩ | fail))
    all_goals first | omega | (simp; done) | (simp only [List.flatMap_append, List.map_append]; rfl)
  case neg =>
    obtain rfl : k = f.ms.length := by omega
    rw [List.take_length]
    repeat' (first
      | refine X.loc ?_
      | refine nx ?_
      | refine X.cdT ?_
      | refine X.cdF ?_
      | (refine WP.condBit rfl ?_ ?_)
      | (refine WP.cond rfl ?_ ?_ <;> intro hcond)
      | refine X.gst ?_ | refine X.gld ?_ | refine X.new ?_ | refine X.app ?_ | refine X.appS ?_ | refine X.stoW ?_ | refine X.stoB ?_ | refine X.stoR ?_ | refine X.gand ?_ | refine X.gor ?_
      | refine nd ?_
      | ((with_reducible apply drwK.mk); (· kernel_rfl); (· exact aF))
      | fail)
    refine WP.loop (ι := Nat) (fun k => ⟨[(1, .optr 1 0), (2, .optr 2 0), (3, .optr 3 0), (5, .fv (.int .i64 k))], [(1, .box 36 ((encFl f).map .fv)), (2, .box 36 [.fv (.int .i64 0), .fv (.int .i64 0), .nil, .nil]), (3, .box 36 [.fv (.int .i64 f.table), .fv (.int .i64 f.prio), .fv (slOf encMx f.ms), .osl 901]), (901, .row 33 3 (f.ds.take k).length (((f.ds.take k).flatMap encDx).map .fv))]⟩) (fun k => k ≤ f.ds.length) (fun k => f.ds.length - k) 0 (by omega) ?_ ?_
    · skip
      refine St.to [(901, .nil)] [900] rfl rfl ?_ ?_ <;> (repeat' (first | exact tA | refine t1 ?_ | exact tB | refine t2 ?_ ?_ | refine t3 ?_ | refine t4 ?_ ?_ | refine .ofEq ?_ | refine OB.To.cut rfl rfl ?_ ?_ ?_ ?_ | refine OB.To.box rfl rfl ?_ | refine ⟨⟨_, rfl, ?_⟩, ?_⟩ | refine ⟨?_, ?_⟩ | fail))
    rintro k hk
    try dsimp only
    by_cases hlt : k < f.ds.length
    case pos =>
      obtain ⟨x, hx⟩ : ∃ x, f.ds[k]? = some x := ⟨_, List.getElem?_eq_getElem hlt⟩
      have hs := take_succ hx
      have hl : (f.ds.take k).length = k := by rw [List.length_take]; omega
      generalize f.ds.take k = L at *
      repeat' (first
        | refine X.loc ?_
        | refine nx ?_
        | refine X.cdT ?_
        | refine X.cdF ?_
        | (refine WP.condBit rfl ?_ ?_)
        | (refine WP.cond rfl ?_ ?_ <;> intro hcond)
        | refine X.gst ?_ | refine X.gld ?_ | refine X.new ?_ | refine X.app ?_ | refine X.appS ?_ | refine X.stoW ?_ | refine X.stoB ?_ | refine X.stoR ?_ | refine X.gand ?_ | refine X.gor ?_
        | refine nd ?_
        | ((with_reducible apply drwK.mk); (· kernel_rfl); (· exact aF))
        | fail)
      refine ⟨k + 1, by omega, by omega, ?_⟩
      try dsimp only
      rw [hs]
      refine St.to [(901, .id 43)] [] rfl rfl ?_ ?_ <;> (repeat' (first | exact tA | refine t1 ?_ | exact tB | refine t2 ?_ ?_ | refine t3 ?_ | refine t4 ?_ ?_ | refine .ofEq ?_ | refine OB.To.cut rfl rfl ?_ ?_ ?_ ?_ | refine OB.To.box rfl rfl ?_ | refine ⟨⟨_, rfl, ?_⟩, ?_⟩ | refine ⟨?_, ?_⟩ | fail))
      all_goals first | omega | (simp; done) | (simp only [List.flatMap_append, List.map_append]; rfl)
    case neg =>
      obtain rfl : k = f.ds.length := by omega
      rw [List.take_length]
      repeat' (first
        | refine X.loc ?_
        | refine nx ?_
        | refine X.cdT ?_
        | refine X.cdF ?_
        | (refine WP.condBit rfl ?_ ?_)
        | (refine WP.cond rfl ?_ ?_ <;> intro hcond)
        | refine X.gst ?_ | refine X.gld ?_ | refine X.new ?_ | refine X.app ?_ | refine X.appS ?_ | refine X.stoW ?_ | refine X.stoB ?_ | refine X.stoR ?_ | refine X.gand ?_ | refine X.gor ?_
        | refine nd ?_
        | ((with_reducible apply drwK.mk); (· kernel_rfl); (· exact aF))
        | fail)
      refine .le (s' := ⟨[(2, .optr 2 0)], [(2, .box 36 ((encFl f).map .fv))]⟩) ?_ (.fun (.inl rfl) rfl rfl)
      refine St.to [] [901] rfl rfl ?_ ?_ <;> (repeat' (first | exact tA | refine t1 ?_ | exact tB | refine t2 ?_ ?_ | refine t3 ?_ | refine t4 ?_ ?_ | refine .ofEq ?_ | refine OB.To.cut rfl rfl ?_ ?_ ?_ ?_ | refine OB.To.box rfl rfl ?_ | refine ⟨⟨_, rfl, ?_⟩, ?_⟩ | refine ⟨?_, ?_⟩ | fail))
end Go.Proofs.Ytdbbmjdeeenlhaa

/- The document's sorted flows, and what is left of some. -/
namespace Go.Proofs.Ytdbbmjdeeenlhaa
open Go.RowKit
set_option maxRecDepth 100000

theorem insS_len (x : Fl) : ∀ (d : Bool) (l : List Fl), (insS x d l).length ≤ l.length + 1
  | true, [] => by simp [insS]
  | false, [] => by simp [insS]
  | d, y :: l => by
    have h1 := insS_len x true l
    have h2 := insS_len x (d || ordF x y == 0) l
    rw [insS]
    split
    · rw [insS_true]; simp
    · simp; omega
theorem sortedR_snoc {l : List Fl} {k : Nat} {x : Fl} (hx : l[k]? = some x) : sortedR (l.take (k + 1)) = insS x false (sortedR (l.take k)) := by
  unfold sortedR
  rw [take_succ hx, List.foldl_append]
  rfl
theorem sortedR_mem (l : List Fl) (z : Fl) : z ∈ sortedR l ↔ z ∈ l := by rw [sortedR_eq, sortedF_mem]
theorem sortedR_len (l : List Fl) : (sortedR l).length ≤ l.length := by rw [sortedR_eq]; exact sortedF_len l
set_option maxHeartbeats 8000000 in
theorem sortedOf_T (l : List Fl) (hf : FitL l) (hl : l.length ≤ 4000000) : FunO Try.prog 30 [.fv (slOf encFl l)] [] (.osl 7) [(7, .row 36 4 (sortedF l).length (((sortedF l).flatMap encFl).map .fv))] := by
  rw [← sortedR_eq]
  refine FunO.bodyL tbl_ok Try.func30 rfl (by kernel_rfl) rfl rfl rfl ?_
  repeat' (first
    | refine X.loc ?_
    | refine nx ?_
    | (refine WP.condBit rfl ?_ ?_)
    | (refine WP.cond rfl ?_ ?_ <;> intro hcond)
    | refine X.gst ?_ | refine X.gld ?_ | refine X.new ?_ | refine X.app ?_ | refine X.appS ?_ | refine X.stoW ?_ | refine X.stoB ?_ | refine X.stoR ?_ | refine X.gand ?_ | refine X.gor ?_
    | refine nd ?_
    | ((with_reducible apply drwK.mk); (· kernel_rfl); (· exact aF))
    | fail)
  refine WP.loop (ι := Nat) (fun i => ⟨[(0, .fv (slOf encFl l)), (3, .osl 900), (4, .fv (.int .i64 i))], [(900, .row 36 4 (sortedR (l.take i)).length (((sortedR (l.take i)).flatMap encFl).map .fv))]⟩) (fun i => i ≤ l.length) (fun i => l.length - i) 0 (by omega) ?_ ?_
  · skip
    refine St.to [(900, .nil)] [] rfl rfl ?_ ?_ <;> (repeat' (first | exact tA | refine t1 ?_ | exact tB | refine t2 ?_ ?_ | refine t3 ?_ | refine t4 ?_ ?_ | refine .ofEq ?_ | refine OB.To.cut rfl rfl ?_ ?_ ?_ ?_ | refine OB.To.box rfl rfl ?_ | refine ⟨⟨_, rfl, ?_⟩, ?_⟩ | refine ⟨?_, ?_⟩ | fail))
  rintro i hi
  try dsimp only
  by_cases hlt : i < l.length
  case neg =>
    rw [List.take_of_length_le (by omega)]
    generalize sortedR l = S at *
    repeat' (first
      | refine X.loc ?_
      | refine nx ?_
      | refine X.cdT ?_
      | refine X.cdF ?_
      | (refine WP.condBit rfl ?_ ?_)
      | (refine WP.cond rfl ?_ ?_ <;> intro hcond)
      | refine X.gst ?_ | refine X.gld ?_ | refine X.new ?_ | refine X.app ?_ | refine X.appS ?_ | refine X.stoW ?_ | refine X.stoB ?_ | refine X.stoR ?_ | refine X.gand ?_ | refine X.gor ?_
      | refine nd ?_
      | ((with_reducible apply drwK.mk); (· kernel_rfl); (· exact aF))
      | fail)
    refine .ofL (s' := ⟨[(2, .osl 7)], [(7, .row 36 4 S.length ((S.flatMap encFl).map .fv))]⟩) (by first | exact .inl rfl | exact .inr rfl) ?_ rfl rfl (by repeat' (first | exact trivial | refine ⟨⟨_, rfl, fun _ _ _ _ h => h⟩, ?_⟩))
    refine St.to [(7, .id 900)] [] rfl rfl ?_ ?_ <;> (repeat' (first | exact tA | refine t1 ?_ | exact tB | refine t2 ?_ ?_ | refine t3 ?_ | refine t4 ?_ ?_ | refine .ofEq ?_ | refine OB.To.cut rfl rfl ?_ ?_ ?_ ?_ | refine OB.To.box rfl rfl ?_ | refine ⟨⟨_, rfl, ?_⟩, ?_⟩ | refine ⟨?_, ?_⟩ | fail))
  case pos =>
    obtain ⟨x, hx⟩ : ∃ x, l[i]? = some x := ⟨_, List.getElem?_eq_getElem hlt⟩
    have hxf := hf x (List.mem_of_getElem? hx)
    have hsn := sortedR_snoc hx
    have hOl := sortedR_len (l.take i)
    have hOf : ∀ y ∈ sortedR (l.take i), y.Fit := fun y hy => hf y (List.mem_of_mem_take ((sortedR_mem _ _).1 hy))
    have hcp := flowCopy_T x hxf
    rw [List.length_take] at hOl
    generalize sortedR (l.take i) = O at *
    repeat' (first
      | refine X.loc ?_
      | refine nx ?_
      | refine X.cdT ?_
      | refine X.cdF ?_
      | (refine WP.condBit rfl ?_ ?_)
      | (refine WP.cond rfl ?_ ?_ <;> intro hcond)
      | refine X.gst ?_ | refine X.gld ?_ | refine X.new ?_ | refine X.app ?_ | refine X.appS ?_ | refine X.stoW ?_ | refine X.stoB ?_ | refine X.stoR ?_ | refine X.gand ?_ | refine X.gor ?_
      | refine nd ?_
      | ((with_reducible apply drwK.mk); (· kernel_rfl); (· exact aF))
      | fail)
    refine WP.loop (ι := Nat × Bool × List Fl) (fun q => ⟨[(0, .fv (slOf encFl l)), (3, .osl 900), (4, .fv (.int .i64 i)), (5, .osl 901), (6, .fv (.bool q.2.1)), (7, .fv (.int .i64 q.1))], [(900, .row 36 4 O.length ((O.flatMap encFl).map .fv)), (901, .row 36 4 q.2.2.length ((q.2.2.flatMap encFl).map .fv))]⟩) (fun q => q.1 ≤ O.length ∧ q.2.2.length ≤ q.1 + 1 ∧ (q.2.1 = false → q.2.2.length = q.1) ∧ insS x false O = q.2.2 ++ insS x q.2.1 (O.drop q.1)) (fun q => O.length - q.1) (0, false, []) ⟨by omega, by simp, fun _ => rfl, rfl⟩ ?_ ?_
    · skip
      refine St.to [(901, .nil)] [] rfl rfl ?_ ?_ <;> (repeat' (first | exact tA | refine t1 ?_ | exact tB | refine t2 ?_ ?_ | refine t3 ?_ | refine t4 ?_ ?_ | refine .ofEq ?_ | refine OB.To.cut rfl rfl ?_ ?_ ?_ ?_ | refine OB.To.box rfl rfl ?_ | refine ⟨⟨_, rfl, ?_⟩, ?_⟩ | refine ⟨?_, ?_⟩ | fail))
    rintro ⟨k, dn, N⟩ ⟨g1, g2, g2b, g3⟩
    try dsimp only at g1 g2 g2b g3
    try dsimp only
    by_cases hk : k < O.length
    case neg =>
      rw [List.drop_eq_nil_of_le (by omega)] at g3
      cases dn with
      | true =>
        have e : insS x false O = N := by rw [g3]; simp [insS]
        repeat' (first
          | refine X.loc ?_
          | refine nx ?_
          | refine X.cdT ?_
          | refine X.cdF ?_
          | (refine WP.condBit rfl ?_ ?_)
          | (refine WP.cond rfl ?_ ?_ <;> intro hcond)
          | refine X.gst ?_ | refine X.gld ?_ | refine X.new ?_ | refine X.app ?_ | refine X.appS ?_ | refine X.stoW ?_ | refine X.stoB ?_ | refine X.stoR ?_ | refine X.gand ?_ | refine X.gor ?_
          | refine nd ?_
          | ((with_reducible apply drwK.mk); (· kernel_rfl); (· exact aF))
          | fail)
        refine ⟨i + 1, by omega, by omega, ?_⟩
        try dsimp only
        rw [hsn, e]
        refine St.to [(900, .id 901)] [] rfl rfl ?_ ?_ <;> (repeat' (first | exact tA | refine t1 ?_ | exact tB | refine t2 ?_ ?_ | refine t3 ?_ | refine t4 ?_ ?_ | refine .ofEq ?_ | refine OB.To.cut rfl rfl ?_ ?_ ?_ ?_ | refine OB.To.box rfl rfl ?_ | refine ⟨⟨_, rfl, ?_⟩, ?_⟩ | refine ⟨?_, ?_⟩ | fail))
      | false =>
        have e : insS x false O = N ++ [x] := by rw [g3]; simp [insS]
        repeat' (first
          | (apply X.loE; (· exact aR); (· first | exact .callL rfl rfl rfl (hcp) rfl | (apply LEff.callBL; (· rfl); (· rfl); (· exact hcp); (· exact aB); (· rfl))))
          | refine X.loc ?_
          | refine nx ?_
          | refine X.cdT ?_
          | refine X.cdF ?_
          | (refine WP.condBit rfl ?_ ?_)
          | (refine WP.cond rfl ?_ ?_ <;> intro hcond)
          | (apply X.gsE; (· exact aR); (· exact aV); (· exact aW); (· intro hc; first | exact .callG rfl rfl rfl (hcp) rfl | (apply LEff.callBG; (· rfl); (· rfl); (· exact hcp); (· exact aB); (· rfl))); (· exact aR))
          | refine X.gst ?_ | refine X.gld ?_ | refine X.new ?_ | refine X.app ?_ | refine X.appS ?_ | refine X.stoW ?_ | refine X.stoB ?_ | refine X.stoR ?_ | refine X.gand ?_ | refine X.gor ?_
          | refine nd ?_
          | ((with_reducible apply drwK.mk); (· kernel_rfl); (· exact aF))
          | fail)
        refine ⟨i + 1, by omega, by omega, ?_⟩
        try dsimp only
        rw [hsn, e]
        refine St.to [(900, .id 62)] [] rfl rfl ?_ ?_ <;> (repeat' (first | exact tA | refine t1 ?_ | exact tB | refine t2 ?_ ?_ | refine t3 ?_ | refine t4 ?_ ?_ | refine .ofEq ?_ | refine OB.To.cut rfl rfl ?_ ?_ ?_ ?_ | refine OB.To.box rfl rfl ?_ | refine ⟨⟨_, rfl, ?_⟩, ?_⟩ | refine ⟨?_, ?_⟩ | fail))
        all_goals first | omega | (simp; done) | (simp only [List.flatMap_append, List.map_append]; rfl)
    case pos =>
      obtain ⟨y, hy⟩ : ∃ y, O[k]? = some y := ⟨_, List.getElem?_eq_getElem hk⟩
      have hyf := hOf y (List.mem_of_getElem? hy)
      have hdy : O.drop k = y :: O.drop (k + 1) := by rw [List.drop_eq_getElem_cons hk, (List.getElem?_eq_some_iff.1 hy).2]
      rw [hdy, insS] at g3
      have hpl := places_T x y hxf hyf
      obtain ⟨p1, p2⟩ := placesR_ord x y
      generalize placesR x y = c at *
      by_cases hc0 : ordF x y = 0
      · obtain rfl := p1.2 hc0
        rw [if_neg (by rintro ⟨h, _⟩; omega), show (dn || ordF x y == 0) = true by simp [hc0]] at g3
        cases dn with
        | true =>
          repeat' (first
            | (apply X.loE; (· exact aR); (· first | (exact .eff (.loadO rfl rfl (readFl (i := k) (by omega) hy))) | exact .callL rfl rfl rfl (by first | exact hpl | exact hcp) rfl | (apply LEff.callBL; (· rfl); (· rfl); (· exact hpl); (· exact aB); (· rfl)) | (apply LEff.callBL; (· rfl); (· rfl); (· exact hcp); (· exact aB); (· rfl))))
            | refine X.loc ?_
            | refine nx ?_
            | refine X.cdT ?_
            | refine X.cdF ?_
            | (refine WP.condBit rfl ?_ ?_)
            | (refine WP.cond rfl ?_ ?_ <;> intro hcond)
            | (apply X.gsE; (· exact aR); (· exact aV); (· exact aW); (· intro hc; first | (exact .eff (.loadO rfl rfl (readFl (i := k) (by omega) hy))) | exact .callG rfl rfl rfl (by first | exact hpl | exact hcp) rfl | (apply LEff.callBG; (· rfl); (· rfl); (· exact hpl); (· exact aB); (· rfl)) | (apply LEff.callBG; (· rfl); (· rfl); (· exact hcp); (· exact aB); (· rfl))); (· exact aR))
            | refine X.gst ?_ | refine X.gld ?_ | refine X.new ?_ | refine X.app ?_ | refine X.appS ?_ | refine X.stoW ?_ | refine X.stoB ?_ | refine X.stoR ?_ | refine X.gand ?_ | refine X.gor ?_
            | refine nd ?_
            | ((with_reducible apply drwK.mk); (· kernel_rfl); (· exact aF))
            | fail)
          refine ⟨(k + 1, true, N ++ [y]), ⟨by dsimp only; omega, by simp; omega, by simp, by rw [g3]; simp⟩, by dsimp only; omega, ?_⟩
          try dsimp only
          refine St.to [(901, .id 52)] [] rfl rfl ?_ ?_ <;> (repeat' (first | exact tA | refine t1 ?_ | exact tB | refine t2 ?_ ?_ | refine t3 ?_ | refine t4 ?_ ?_ | refine .ofEq ?_ | refine OB.To.cut rfl rfl ?_ ?_ ?_ ?_ | refine OB.To.box rfl rfl ?_ | refine ⟨⟨_, rfl, ?_⟩, ?_⟩ | refine ⟨?_, ?_⟩ | fail))
          all_goals first | omega | (simp; done) | (simp only [List.flatMap_append, List.map_append]; rfl)
        | false =>
          repeat' (first
            | (apply X.loE; (· exact aR); (· first | (exact .eff (.loadO rfl rfl (readFl (i := k) (by omega) hy))) | exact .callL rfl rfl rfl (by first | exact hpl | exact hcp) rfl | (apply LEff.callBL; (· rfl); (· rfl); (· exact hpl); (· exact aB); (· rfl)) | (apply LEff.callBL; (· rfl); (· rfl); (· exact hcp); (· exact aB); (· rfl))))
            | refine X.loc ?_
            | refine nx ?_
            | refine X.cdT ?_
            | refine X.cdF ?_
            | (refine WP.condBit rfl ?_ ?_)
            | (refine WP.cond rfl ?_ ?_ <;> intro hcond)
            | (apply X.gsE; (· exact aR); (· exact aV); (· exact aW); (· intro hc; first | (exact .eff (.loadO rfl rfl (readFl (i := k) (by omega) hy))) | exact .callG rfl rfl rfl (by first | exact hpl | exact hcp) rfl | (apply LEff.callBG; (· rfl); (· rfl); (· exact hpl); (· exact aB); (· rfl)) | (apply LEff.callBG; (· rfl); (· rfl); (· exact hcp); (· exact aB); (· rfl))); (· exact aR))
            | refine X.gst ?_ | refine X.gld ?_ | refine X.new ?_ | refine X.app ?_ | refine X.appS ?_ | refine X.stoW ?_ | refine X.stoB ?_ | refine X.stoR ?_ | refine X.gand ?_ | refine X.gor ?_
            | refine nd ?_
            | ((with_reducible apply drwK.mk); (· kernel_rfl); (· exact aF))
            | fail)
          refine ⟨(k + 1, true, N ++ [y]), ⟨by dsimp only; omega, by simp; omega, by simp, by rw [g3]; simp⟩, by dsimp only; omega, ?_⟩
          try dsimp only
          refine St.to [(901, .id 52)] [] rfl rfl ?_ ?_ <;> (repeat' (first | exact tA | refine t1 ?_ | exact tB | refine t2 ?_ ?_ | refine t3 ?_ | refine t4 ?_ ?_ | refine .ofEq ?_ | refine OB.To.cut rfl rfl ?_ ?_ ?_ ?_ | refine OB.To.box rfl rfl ?_ | refine ⟨⟨_, rfl, ?_⟩, ?_⟩ | refine ⟨?_, ?_⟩ | fail))
          all_goals first | omega | (simp; done) | (simp only [List.flatMap_append, List.map_append]; rfl)
      · have hcn : c ≠ 0 := fun h => hc0 (p1.1 h)
        have hb : (ordF x y == 0) = false := by simpa using hc0
        rw [hb, Bool.or_false] at g3
        by_cases hlt : ordF x y < 0
        · have hcl := p2.2 hlt
          cases dn with
          | true =>
            rw [if_neg (by simp)] at g3
            repeat' (first
              | (apply X.loE; (· exact aR); (· first | (exact .eff (.loadO rfl rfl (readFl (i := k) (by omega) hy))) | exact .callL rfl rfl rfl (by first | exact hpl | exact hcp) rfl | (apply LEff.callBL; (· rfl); (· rfl); (· exact hpl); (· exact aB); (· rfl)) | (apply LEff.callBL; (· rfl); (· rfl); (· exact hcp); (· exact aB); (· rfl))))
              | refine X.loc ?_
              | refine nx ?_
              | refine X.cdT ?_
              | refine X.cdF ?_
              | (refine WP.condBit rfl ?_ ?_)
              | (refine WP.cond rfl ?_ ?_ <;> intro hcond)
              | (apply X.gsE; (· exact aR); (· exact aV); (· exact aW); (· intro hc; first | (exact .eff (.loadO rfl rfl (readFl (i := k) (by omega) hy))) | exact .callG rfl rfl rfl (by first | exact hpl | exact hcp) rfl | (apply LEff.callBG; (· rfl); (· rfl); (· exact hpl); (· exact aB); (· rfl)) | (apply LEff.callBG; (· rfl); (· rfl); (· exact hcp); (· exact aB); (· rfl))); (· exact aR))
              | refine X.gst ?_ | refine X.gld ?_ | refine X.new ?_ | refine X.app ?_ | refine X.appS ?_ | refine X.stoW ?_ | refine X.stoB ?_ | refine X.stoR ?_ | refine X.gand ?_ | refine X.gor ?_
              | refine nd ?_
              | ((with_reducible apply drwK.mk); (· kernel_rfl); (· exact aF))
              | fail)
            · exfalso
              simp at hcond
            · refine ⟨(k + 1, true, N ++ [y]), ⟨by dsimp only; omega, by simp; omega, by simp, by rw [g3]; simp⟩, by dsimp only; omega, ?_⟩
              try dsimp only
              refine St.to [(901, .id 52)] [] rfl rfl ?_ ?_ <;> (repeat' (first | exact tA | refine t1 ?_ | exact tB | refine t2 ?_ ?_ | refine t3 ?_ | refine t4 ?_ ?_ | refine .ofEq ?_ | refine OB.To.cut rfl rfl ?_ ?_ ?_ ?_ | refine OB.To.box rfl rfl ?_ | refine ⟨⟨_, rfl, ?_⟩, ?_⟩ | refine ⟨?_, ?_⟩ | fail))
              all_goals first | omega | (simp; done) | (simp only [List.flatMap_append, List.map_append]; rfl)
          | false =>
            rw [if_pos ⟨hlt, rfl⟩] at g3
            have hN := g2b rfl
            repeat' (first
              | (apply X.loE; (· exact aR); (· first | (exact .eff (.loadO rfl rfl (readFl (i := k) (by omega) hy))) | exact .callL rfl rfl rfl (by first | exact hpl | exact hcp) rfl | (apply LEff.callBL; (· rfl); (· rfl); (· exact hpl); (· exact aB); (· rfl)) | (apply LEff.callBL; (· rfl); (· rfl); (· exact hcp); (· exact aB); (· rfl))))
              | refine X.loc ?_
              | refine nx ?_
              | refine X.cdT ?_
              | refine X.cdF ?_
              | (refine WP.condBit rfl ?_ ?_)
              | (refine WP.cond rfl ?_ ?_ <;> intro hcond)
              | (apply X.gsE; (· exact aR); (· exact aV); (· exact aW); (· intro hc; first | (exact .eff (.loadO rfl rfl (readFl (i := k) (by omega) hy))) | exact .callG rfl rfl rfl (by first | exact hpl | exact hcp) rfl | (apply LEff.callBG; (· rfl); (· rfl); (· exact hpl); (· exact aB); (· rfl)) | (apply LEff.callBG; (· rfl); (· rfl); (· exact hcp); (· exact aB); (· rfl))); (· exact aR))
              | refine X.gst ?_ | refine X.gld ?_ | refine X.new ?_ | refine X.app ?_ | refine X.appS ?_ | refine X.stoW ?_ | refine X.stoB ?_ | refine X.stoR ?_ | refine X.gand ?_ | refine X.gor ?_
              | refine nd ?_
              | ((with_reducible apply drwK.mk); (· kernel_rfl); (· exact aF))
              | fail)
            · refine ⟨(k + 1, true, N ++ [x] ++ [y]), ⟨by dsimp only; omega, by simp; omega, by simp, by rw [g3]; simp⟩, by dsimp only; omega, ?_⟩
              try dsimp only
              refine St.to [(901, .id 52)] [] rfl rfl ?_ ?_ <;> (repeat' (first | exact tA | refine t1 ?_ | exact tB | refine t2 ?_ ?_ | refine t3 ?_ | refine t4 ?_ ?_ | refine .ofEq ?_ | refine OB.To.cut rfl rfl ?_ ?_ ?_ ?_ | refine OB.To.box rfl rfl ?_ | refine ⟨⟨_, rfl, ?_⟩, ?_⟩ | refine ⟨?_, ?_⟩ | fail))
              all_goals first | omega | (simp; done) | (simp only [List.flatMap_append, List.map_append]; rfl)
            · exfalso
              simp [hcl] at hcond
        · have hcl : ¬ c < 0 := fun h => hlt (p2.1 h)
          rw [if_neg (fun h => hlt h.1)] at g3
          cases dn with
          | true =>
            repeat' (first
              | (apply X.loE; (· exact aR); (· first | (exact .eff (.loadO rfl rfl (readFl (i := k) (by omega) hy))) | exact .callL rfl rfl rfl (by first | exact hpl | exact hcp) rfl | (apply LEff.callBL; (· rfl); (· rfl); (· exact hpl); (· exact aB); (· rfl)) | (apply LEff.callBL; (· rfl); (· rfl); (· exact hcp); (· exact aB); (· rfl))))
              | refine X.loc ?_
              | refine nx ?_
              | refine X.cdT ?_
              | refine X.cdF ?_
              | (refine WP.condBit rfl ?_ ?_)
              | (refine WP.cond rfl ?_ ?_ <;> intro hcond)
              | (apply X.gsE; (· exact aR); (· exact aV); (· exact aW); (· intro hc; first | (exact .eff (.loadO rfl rfl (readFl (i := k) (by omega) hy))) | exact .callG rfl rfl rfl (by first | exact hpl | exact hcp) rfl | (apply LEff.callBG; (· rfl); (· rfl); (· exact hpl); (· exact aB); (· rfl)) | (apply LEff.callBG; (· rfl); (· rfl); (· exact hcp); (· exact aB); (· rfl))); (· exact aR))
              | refine X.gst ?_ | refine X.gld ?_ | refine X.new ?_ | refine X.app ?_ | refine X.appS ?_ | refine X.stoW ?_ | refine X.stoB ?_ | refine X.stoR ?_ | refine X.gand ?_ | refine X.gor ?_
              | refine nd ?_
              | ((with_reducible apply drwK.mk); (· kernel_rfl); (· exact aF))
              | fail)
            refine ⟨(k + 1, true, N ++ [y]), ⟨by dsimp only; omega, by simp; omega, by simp, by rw [g3]; simp⟩, by dsimp only; omega, ?_⟩
            try dsimp only
            refine St.to [(901, .id 52)] [] rfl rfl ?_ ?_ <;> (repeat' (first | exact tA | refine t1 ?_ | exact tB | refine t2 ?_ ?_ | refine t3 ?_ | refine t4 ?_ ?_ | refine .ofEq ?_ | refine OB.To.cut rfl rfl ?_ ?_ ?_ ?_ | refine OB.To.box rfl rfl ?_ | refine ⟨⟨_, rfl, ?_⟩, ?_⟩ | refine ⟨?_, ?_⟩ | fail))
            all_goals first | omega | (simp; done) | (simp only [List.flatMap_append, List.map_append]; rfl)
          | false =>
            repeat' (first
              | (apply X.loE; (· exact aR); (· first | (exact .eff (.loadO rfl rfl (readFl (i := k) (by omega) hy))) | exact .callL rfl rfl rfl (by first | exact hpl | exact hcp) rfl | (apply LEff.callBL; (· rfl); (· rfl); (· exact hpl); (· exact aB); (· rfl)) | (apply LEff.callBL; (· rfl); (· rfl); (· exact hcp); (· exact aB); (· rfl))))
              | refine X.loc ?_
              | refine nx ?_
              | refine X.cdT ?_
              | refine X.cdF ?_
              | (refine WP.condBit rfl ?_ ?_)
              | (refine WP.cond rfl ?_ ?_ <;> intro hcond)
              | (apply X.gsE; (· exact aR); (· exact aV); (· exact aW); (· intro hc; first | (exact .eff (.loadO rfl rfl (readFl (i := k) (by omega) hy))) | exact .callG rfl rfl rfl (by first | exact hpl | exact hcp) rfl | (apply LEff.callBG; (· rfl); (· rfl); (· exact hpl); (· exact aB); (· rfl)) | (apply LEff.callBG; (· rfl); (· rfl); (· exact hcp); (· exact aB); (· rfl))); (· exact aR))
              | refine X.gst ?_ | refine X.gld ?_ | refine X.new ?_ | refine X.app ?_ | refine X.appS ?_ | refine X.stoW ?_ | refine X.stoB ?_ | refine X.stoR ?_ | refine X.gand ?_ | refine X.gor ?_
              | refine nd ?_
              | ((with_reducible apply drwK.mk); (· kernel_rfl); (· exact aF))
              | fail)
            refine ⟨(k + 1, false, N ++ [y]), ⟨by dsimp only; omega, by simp; omega, fun _ => by have := g2b rfl; simp; omega, by rw [g3]; simp⟩, by dsimp only; omega, ?_⟩
            try dsimp only
            refine St.to [(901, .id 52)] [] rfl rfl ?_ ?_ <;> (repeat' (first | exact tA | refine t1 ?_ | exact tB | refine t2 ?_ ?_ | refine t3 ?_ | refine t4 ?_ ?_ | refine .ofEq ?_ | refine OB.To.cut rfl rfl ?_ ?_ ?_ ?_ | refine OB.To.box rfl rfl ?_ | refine ⟨⟨_, rfl, ?_⟩, ?_⟩ | refine ⟨?_, ?_⟩ | fail))
            all_goals first | omega | (simp; done) | (simp only [List.flatMap_append, List.map_append]; rfl)
end Go.Proofs.Ytdbbmjdeeenlhaa

/- What is left, and what is patched: the document's answers. -/
namespace Go.Proofs.Ytdbbmjdeeenlhaa
open Go.RowKit
set_option maxRecDepth 100000

theorem hasF_succ {b : List Fl} {k : Nat} {y : Fl} (x : Fl) (hy : b[k]? = some y) : hasF (b.take (k + 1)) x = (hasF (b.take k) x || (ordF x y == 0)) := by
  unfold hasF
  rw [take_succ hy, List.any_append]
  simp
theorem filt_succ {l : List Fl} {k : Nat} {x : Fl} (p : Fl → Bool) (hx : l[k]? = some x) : (l.take (k + 1)).filter p = (l.take k).filter p ++ (if p x = true then [x] else []) := by
  rw [take_succ hx, List.filter_append]
  congr 1
  cases h : p x <;> simp [h]
set_option maxHeartbeats 8000000 in
theorem leftOf_T (l b : List Fl) (hf : FitL l) (hb : FitL b) (hl : l.length ≤ 4000000) (hbl : b.length ≤ 4000000) : FunO Try.prog 33 [.fv (slOf encFl l), .fv (slOf encFl b)] [] (.osl 7) [(7, .row 36 4 (leftF l b).length (((leftF l b).flatMap encFl).map .fv))] := by
  have c1 := sortedOf_T (l.filter fun x => !hasF b x) (fun f h => hf f ((List.mem_filter.1 h).1)) (Nat.le_trans (List.length_filter_le _ _) hl)
  rw [leftF_ref] at c1
  generalize leftF l b = S at *
  refine FunO.bodyL tbl_ok Try.func33 rfl (by kernel_rfl) rfl rfl rfl ?_
  repeat' (first
    | refine X.loc ?_
    | refine nx ?_
    | (refine WP.condBit rfl ?_ ?_)
    | (refine WP.cond rfl ?_ ?_ <;> intro hcond)
    | refine X.gst ?_ | refine X.gld ?_ | refine X.new ?_ | refine X.app ?_ | refine X.appS ?_ | refine X.stoW ?_ | refine X.stoB ?_ | refine X.stoR ?_ | refine X.gand ?_ | refine X.gor ?_
    | refine nd ?_
    | ((with_reducible apply drwK.mk); (· kernel_rfl); (· exact aF))
    | fail)
  refine WP.loop (ι := Nat) (fun i => ⟨[(0, .fv (slOf encFl l)), (1, .fv (slOf encFl b)), (5, .osl 900), (6, .fv (.int .i64 i))], [(900, .row 36 4 ((l.take i).filter fun x => !hasF b x).length ((((l.take i).filter fun x => !hasF b x).flatMap encFl).map .fv))]⟩) (fun i => i ≤ l.length) (fun i => l.length - i) 0 (by omega) ?_ ?_
  · skip
    refine St.to [(900, .nil)] [] rfl rfl ?_ ?_ <;> (repeat' (first | exact tA | refine t1 ?_ | exact tB | refine t2 ?_ ?_ | refine t3 ?_ | refine t4 ?_ ?_ | refine .ofEq ?_ | refine OB.To.cut rfl rfl ?_ ?_ ?_ ?_ | refine OB.To.box rfl rfl ?_ | refine ⟨⟨_, rfl, ?_⟩, ?_⟩ | refine ⟨?_, ?_⟩ | fail))
  rintro i hi
  try dsimp only
  by_cases hlt : i < l.length
  case neg =>
    rw [List.take_of_length_le (by omega)]
    have hOl := List.length_filter_le (fun x => !hasF b x) l
    generalize l.filter (fun x => !hasF b x) = O at *
    repeat' (first
      | refine X.loc ?_
      | refine nx ?_
      | refine X.cdT ?_
      | refine X.cdF ?_
      | (refine WP.condBit rfl ?_ ?_)
      | (refine WP.cond rfl ?_ ?_ <;> intro hcond)
      | refine X.gst ?_ | refine X.gld ?_ | refine X.new ?_ | refine X.app ?_ | refine X.appS ?_ | refine X.stoW ?_ | refine X.stoB ?_ | refine X.stoR ?_ | refine X.gand ?_ | refine X.gor ?_
      | (apply X.cal false; (· exact aR); (· exact c1); (· exact aC))
      | refine nd ?_
      | ((with_reducible apply drwK.mk); (· kernel_rfl); (· exact aF))
      | fail)
    refine .ofL (s' := ⟨[(4, .osl 7)], [(7, .row 36 4 S.length ((S.flatMap encFl).map .fv))]⟩) (by first | exact .inl rfl | exact .inr rfl) ?_ rfl rfl (by repeat' (first | exact trivial | refine ⟨⟨_, rfl, fun _ _ _ _ h => h⟩, ?_⟩))
    refine St.to [(7, .id 44)] [] rfl rfl ?_ ?_ <;> (repeat' (first | exact tA | refine t1 ?_ | exact tB | refine t2 ?_ ?_ | refine t3 ?_ | refine t4 ?_ ?_ | refine .ofEq ?_ | refine OB.To.cut rfl rfl ?_ ?_ ?_ ?_ | refine OB.To.box rfl rfl ?_ | refine ⟨⟨_, rfl, ?_⟩, ?_⟩ | refine ⟨?_, ?_⟩ | fail))
  case pos =>
    obtain ⟨x, hx⟩ : ∃ x, l[i]? = some x := ⟨_, List.getElem?_eq_getElem hlt⟩
    have hxf := hf x (List.mem_of_getElem? hx)
    have hs := filt_succ (fun x => !hasF b x) hx
    have hOl := List.length_filter_le (fun x => !hasF b x) (l.take i)
    rw [List.length_take] at hOl
    generalize (l.take i).filter (fun x => !hasF b x) = O at *
    repeat' (first
      | refine X.loc ?_
      | refine nx ?_
      | refine X.cdT ?_
      | refine X.cdF ?_
      | (refine WP.condBit rfl ?_ ?_)
      | (refine WP.cond rfl ?_ ?_ <;> intro hcond)
      | refine X.gst ?_ | refine X.gld ?_ | refine X.new ?_ | refine X.app ?_ | refine X.appS ?_ | refine X.stoW ?_ | refine X.stoB ?_ | refine X.stoR ?_ | refine X.gand ?_ | refine X.gor ?_
      | refine nd ?_
      | ((with_reducible apply drwK.mk); (· kernel_rfl); (· exact aF))
      | fail)
    refine WP.loop (ι := Nat × Bool) (fun q => ⟨[(0, .fv (slOf encFl l)), (1, .fv (slOf encFl b)), (5, .osl 900), (6, .fv (.int .i64 i)), (7, .fv (.bool q.2)), (8, .fv (.int .i64 q.1))], [(900, .row 36 4 O.length ((O.flatMap encFl).map .fv))]⟩) (fun q => q.1 ≤ b.length ∧ q.2 = hasF (b.take q.1) x) (fun q => b.length - q.1) (0, false) ⟨by omega, rfl⟩ ?_ ?_
    · skip
      refine St.le_of ?_ ?_ <;> (repeat' (first | exact trivial | refine ⟨⟨_, rfl, .refl _⟩, ?_⟩ | refine ⟨⟨_, rfl, .any _⟩, ?_⟩ | refine ⟨⟨_, rfl, .of_eq ?_⟩, ?_⟩ | refine ⟨⟨_, rfl, fun _ _ _ _ h => h⟩, ?_⟩ | fail))
    rintro ⟨k, tb⟩ ⟨g1, g2⟩
    try dsimp only at g1 g2
    try dsimp only
    by_cases hk : k < b.length
    case neg =>
      rw [List.take_of_length_le (by omega)] at g2
      rw [← g2] at hs
      cases tb with
      | true =>
        rw [if_neg (by simp), List.append_nil] at hs
        repeat' (first
          | refine X.loc ?_
          | refine nx ?_
          | refine X.cdT ?_
          | refine X.cdF ?_
          | (refine WP.condBit rfl ?_ ?_)
          | (refine WP.cond rfl ?_ ?_ <;> intro hcond)
          | refine X.gst ?_ | refine X.gld ?_ | refine X.new ?_ | refine X.app ?_ | refine X.appS ?_ | refine X.stoW ?_ | refine X.stoB ?_ | refine X.stoR ?_ | refine X.gand ?_ | refine X.gor ?_
          | refine nd ?_
          | ((with_reducible apply drwK.mk); (· kernel_rfl); (· exact aF))
          | fail)
        refine ⟨i + 1, by omega, by omega, ?_⟩
        try dsimp only
        rw [hs]
        refine St.le_of ?_ ?_ <;> (repeat' (first | exact trivial | refine ⟨⟨_, rfl, .refl _⟩, ?_⟩ | refine ⟨⟨_, rfl, .any _⟩, ?_⟩ | refine ⟨⟨_, rfl, .of_eq ?_⟩, ?_⟩ | refine ⟨⟨_, rfl, fun _ _ _ _ h => h⟩, ?_⟩ | fail))
      | false =>
        rw [if_pos (by simp)] at hs
        repeat' (first
          | refine X.loc ?_
          | refine nx ?_
          | refine X.cdT ?_
          | refine X.cdF ?_
          | (refine WP.condBit rfl ?_ ?_)
          | (refine WP.cond rfl ?_ ?_ <;> intro hcond)
          | refine X.gst ?_ | refine X.gld ?_ | refine X.new ?_ | refine X.app ?_ | refine X.appS ?_ | refine X.stoW ?_ | refine X.stoB ?_ | refine X.stoR ?_ | refine X.gand ?_ | refine X.gor ?_
          | refine nd ?_
          | ((with_reducible apply drwK.mk); (· kernel_rfl); (· exact aF))
          | fail)
        refine ⟨i + 1, by omega, by omega, ?_⟩
        try dsimp only
        rw [hs]
        refine St.to [(900, .id 42)] [] rfl rfl ?_ ?_ <;> (repeat' (first | exact tA | refine t1 ?_ | exact tB | refine t2 ?_ ?_ | refine t3 ?_ | refine t4 ?_ ?_ | refine .ofEq ?_ | refine OB.To.cut rfl rfl ?_ ?_ ?_ ?_ | refine OB.To.box rfl rfl ?_ | refine ⟨⟨_, rfl, ?_⟩, ?_⟩ | refine ⟨?_, ?_⟩ | fail))
        all_goals first | omega | (simp; done) | (simp only [List.flatMap_append, List.map_append]; rfl)
    case pos =>
      obtain ⟨y, hy⟩ : ∃ y, b[k]? = some y := ⟨_, List.getElem?_eq_getElem hk⟩
      have hyf := hb y (List.mem_of_getElem? hy)
      have hsb := hasF_succ x hy
      rw [← g2] at hsb
      have hpl := places_T x y hxf hyf
      obtain ⟨p1, _⟩ := placesR_ord x y
      generalize placesR x y = c at *
      cases tb with
      | true =>
        repeat' (first
          | (apply X.loE; (· exact aR); (· first | exact .callL rfl rfl rfl (hpl) rfl | (apply LEff.callBL; (· rfl); (· rfl); (· exact hpl); (· exact aB); (· rfl))))
          | refine X.loc ?_
          | refine nx ?_
          | refine X.cdT ?_
          | refine X.cdF ?_
          | (refine WP.condBit rfl ?_ ?_)
          | (refine WP.cond rfl ?_ ?_ <;> intro hcond)
          | (apply X.gsE; (· exact aR); (· exact aV); (· exact aW); (· intro hc; first | exact .callG rfl rfl rfl (hpl) rfl | (apply LEff.callBG; (· rfl); (· rfl); (· exact hpl); (· exact aB); (· rfl))); (· exact aR))
          | refine X.gst ?_ | refine X.gld ?_ | refine X.new ?_ | refine X.app ?_ | refine X.appS ?_ | refine X.stoW ?_ | refine X.stoB ?_ | refine X.stoR ?_ | refine X.gand ?_ | refine X.gor ?_
          | refine nd ?_
          | ((with_reducible apply drwK.mk); (· kernel_rfl); (· exact aF))
          | fail)
        refine ⟨(k + 1, true), ⟨by dsimp only; omega, by rw [hsb]; rfl⟩, by dsimp only; omega, ?_⟩
        try dsimp only
        refine St.le_of ?_ ?_ <;> (repeat' (first | exact trivial | refine ⟨⟨_, rfl, .refl _⟩, ?_⟩ | refine ⟨⟨_, rfl, .any _⟩, ?_⟩ | refine ⟨⟨_, rfl, .of_eq ?_⟩, ?_⟩ | refine ⟨⟨_, rfl, fun _ _ _ _ h => h⟩, ?_⟩ | fail))
      | false =>
        by_cases hc0 : c = 0
        · have hz : (ordF x y == 0) = true := by simpa using p1.1 hc0
          subst hc0
          repeat' (first
            | (apply X.loE; (· exact aR); (· first | exact .callL rfl rfl rfl (hpl) rfl | (apply LEff.callBL; (· rfl); (· rfl); (· exact hpl); (· exact aB); (· rfl))))
            | refine X.loc ?_
            | refine nx ?_
            | refine X.cdT ?_
            | refine X.cdF ?_
            | (refine WP.condBit rfl ?_ ?_)
            | (refine WP.cond rfl ?_ ?_ <;> intro hcond)
            | (apply X.gsE; (· exact aR); (· exact aV); (· exact aW); (· intro hc; first | exact .callG rfl rfl rfl (hpl) rfl | (apply LEff.callBG; (· rfl); (· rfl); (· exact hpl); (· exact aB); (· rfl))); (· exact aR))
            | refine X.gst ?_ | refine X.gld ?_ | refine X.new ?_ | refine X.app ?_ | refine X.appS ?_ | refine X.stoW ?_ | refine X.stoB ?_ | refine X.stoR ?_ | refine X.gand ?_ | refine X.gor ?_
            | refine nd ?_
            | ((with_reducible apply drwK.mk); (· kernel_rfl); (· exact aF))
            | fail)
          refine ⟨(k + 1, true), ⟨by dsimp only; omega, by rw [hsb, hz]; rfl⟩, by dsimp only; omega, ?_⟩
          try dsimp only
          refine St.le_of ?_ ?_ <;> (repeat' (first | exact trivial | refine ⟨⟨_, rfl, .refl _⟩, ?_⟩ | refine ⟨⟨_, rfl, .any _⟩, ?_⟩ | refine ⟨⟨_, rfl, .of_eq ?_⟩, ?_⟩ | refine ⟨⟨_, rfl, fun _ _ _ _ h => h⟩, ?_⟩ | fail))
        · have hz : (ordF x y == 0) = false := by simpa using fun h => hc0 (p1.2 h)
          have hd0 : decide (c = 0) = false := by simpa using hc0
          repeat' (first
            | (apply X.loE; (· exact aR); (· first | exact .callL rfl rfl rfl (hpl) rfl | (apply LEff.callBL; (· rfl); (· rfl); (· exact hpl); (· exact aB); (· rfl))))
            | refine X.loc ?_
            | refine nx ?_
            | refine X.cdT ?_
            | refine X.cdF ?_
            | (refine WP.condBit rfl ?_ ?_)
            | (refine WP.cond rfl ?_ ?_ <;> intro hcond)
            | (apply X.gsE; (· exact aR); (· exact aV); (· exact aW); (· intro hc; first | exact .callG rfl rfl rfl (hpl) rfl | (apply LEff.callBG; (· rfl); (· rfl); (· exact hpl); (· exact aB); (· rfl))); (· exact aR))
            | refine X.gst ?_ | refine X.gld ?_ | refine X.new ?_ | refine X.app ?_ | refine X.appS ?_ | refine X.stoW ?_ | refine X.stoB ?_ | refine X.stoR ?_ | refine X.gand ?_ | refine X.gor ?_
            | refine nd ?_
            | ((with_reducible apply drwK.mk); (· kernel_rfl); (· exact aF))
            | fail)
          refine ⟨(k + 1, false), ⟨by dsimp only; omega, by rw [hsb, hz]; rfl⟩, by dsimp only; omega, ?_⟩
          try dsimp only
          refine St.le_of ?_ ?_ <;> (repeat' (first | exact trivial | refine ⟨⟨_, rfl, .refl _⟩, ?_⟩ | refine ⟨⟨_, rfl, .any _⟩, ?_⟩ | refine ⟨⟨_, rfl, .of_eq ?_⟩, ?_⟩ | refine ⟨⟨_, rfl, fun _ _ _ _ h => h⟩, ?_⟩ | fail))
          all_goals simp [hc0]
theorem leftF_len (a b : List Fl) : (leftF a b).length ≤ a.length := by
  have h1 := List.length_filter_le (fun x => !hasF b x) (sortedF a)
  have h2 := sortedF_len a
  unfold leftF
  omega
theorem sortedOf_F (l : List Fl) (hf : FitL l) (hl : l.length ≤ 4000000) : Fun Try.prog 30 [.fv (slOf encFl l)] (.fv (slOf encFl (sortedF l))) := (sortedOf_T l hf hl).froz [7] (.frz rfl rfl rfl)
theorem leftOf_F (l b : List Fl) (hf : FitL l) (hb : FitL b) (hl : l.length ≤ 4000000) (hbl : b.length ≤ 4000000) : Fun Try.prog 33 [.fv (slOf encFl l), .fv (slOf encFl b)] (.fv (slOf encFl (leftF l b))) := (leftOf_T l b hf hb hl hbl).froz [7] (.frz rfl rfl rfl)
theorem patchedOf_T (l come gone : List Fl) (hf : FitL l) (hg : FitL gone) (hc : FitL come) (hl : l.length ≤ 1048576) (hgl : gone.length ≤ 1048576) (hcl : come.length ≤ 1048576) : FunO Try.prog 35 [.fv (slOf encFl l), .fv (slOf encFl come), .fv (slOf encFl gone)] [] (.osl 7) [(7, .row 36 4 (patchF l come gone).length (((patchF l come gone).flatMap encFl).map .fv))] := by
  have c1 := leftOf_T l gone hf hg (by omega) (by omega)
  have hLf : FitL (leftF l gone) := fun x hx => hf x (leftF_mem.1 hx).1
  have hll := leftF_len l gone
  have e0 : patchF l come gone = sortedF (leftF l gone ++ come) := rfl
  rw [e0]
  generalize leftF l gone = L at *
  have hln : (L ++ come).length = L.length + come.length := by simp
  have c2 := sortedOf_T (L ++ come) (fun f hf => by
    rcases List.mem_append.1 hf with h | h
    · exact hLf f h
    · exact hc f h) (by omega)
  have hcells : (L.flatMap encFl).map AV.fv ++ (come.flatMap encFl).map AV.fv = ((L ++ come).flatMap encFl).map AV.fv := by rw [List.flatMap_append, List.map_append]
  rw [slOf, hln] at c2
  generalize sortedF (L ++ come) = S at *
  refine FunO.bodyL tbl_ok Try.func35 rfl (by kernel_rfl) rfl rfl rfl ?_
  repeat' (first
    | refine X.loc ?_
    | refine nx ?_
    | refine X.cdT ?_
    | refine X.cdF ?_
    | (refine WP.condBit rfl ?_ ?_)
    | (refine WP.cond rfl ?_ ?_ <;> intro hcond)
    | refine X.gst ?_ | refine X.gld ?_ | refine X.new ?_ | refine X.app ?_ | refine X.appS ?_ | refine X.stoW ?_ | refine X.stoB ?_ | refine X.stoR ?_ | refine X.gand ?_ | refine X.gor ?_
    | (apply X.cal false; (· exact aR); (· exact c1); (· exact aC))
    | (apply X.cal false; (· exact aR); (· exact c2); (· (refine ⟨?_, ?_, ?_, ?_, ?_, ?_, ?_, ?_, ?_, ?_, ?_⟩; (· skip; (repeat' (first | exact trivial | exact AV.ToL.nil | exact .ptr rfl | exact .sl rfl | exact AV.To.nil rfl | exact .le (.refl _) rfl | exact .frz rfl rfl rfl | exact .frp rfl rfl rfl | exact .le AV.Le.nil rfl | exact AV.To.frzE rfl (by first | rfl | omega | (simp; done)) (by first | assumption | (simp only [List.flatMap_append, List.map_append]; rfl)) rfl | refine AV.To.agg ?_ | refine AV.To.fn ?_ | refine AV.ToL.cons ?_ ?_ | exact OB.To.nil rfl | refine OB.To.row rfl rfl rfl ?_ | refine OB.To.box rfl rfl ?_ | exact .ofEq rfl | refine ⟨?_, ?_⟩ | exact AV.To.cut rfl | fail))); (· skip; (repeat' (first | exact trivial | exact AV.ToL.nil | exact .ptr rfl | exact .sl rfl | exact AV.To.nil rfl | exact .le (.refl _) rfl | exact .frz rfl rfl rfl | exact .frp rfl rfl rfl | exact .le AV.Le.nil rfl | exact AV.To.frzE rfl (by first | rfl | omega | (simp; done)) (by first | assumption | (simp only [List.flatMap_append, List.map_append]; rfl)) rfl | refine AV.To.agg ?_ | refine AV.To.fn ?_ | refine AV.ToL.cons ?_ ?_ | exact OB.To.nil rfl | refine OB.To.row rfl rfl rfl ?_ | refine OB.To.box rfl rfl ?_ | exact .ofEq rfl | refine ⟨?_, ?_⟩ | exact AV.To.cut rfl | fail))); (· rfl); (· rfl); (· skip; (repeat' (first | exact OwnRn.nil | apply OwnRn.cons rfl | apply OB.Rn.row | apply OB.Rn.box | exact AV.RnL.maps _ | exact AV.RnL.nil | exact AV.Rn.nil | exact AV.Rn.le rfl | exact AV.Rn.ptr rfl | exact AV.Rn.sl rfl | apply AV.RnL.cons | apply AV.Rn.agg | apply AV.Rn.tup | apply AV.Rn.fn | apply AV.RnL.app | apply AV.RnL.mapsS | fail))); (· skip; (repeat' (first | exact OwnRn.nil | apply OwnRn.cons rfl | apply OB.Rn.row | apply OB.Rn.box | exact AV.RnL.maps _ | exact AV.RnL.nil | exact AV.Rn.nil | exact AV.Rn.le rfl | exact AV.Rn.ptr rfl | exact AV.Rn.sl rfl | apply AV.RnL.cons | apply AV.Rn.agg | apply AV.Rn.tup | apply AV.Rn.fn | apply AV.RnL.app | apply AV.RnL.mapsS | fail))); (· rfl); (· rfl); (· exact (by first | exact (rfl : _ = []) | exact (rfl : _ = [_]) | exact (rfl : _ = [_, _]) | exact (rfl : _ = [_, _, _]) | exact (rfl : _ = [_, _, _, _]) | exact (rfl : _ = [_, _, _, _, _]) | exact (rfl : _ = [_, _, _, _, _, _]) | exact (rfl : _ = [_, _, _, _, _, _, _]) | exact (rfl : _ = [_, _, _, _, _, _, _, _]) | exact (rfl : _ = [_, _, _, _, _, _, _, _, _]) | exact (rfl : _ = [_, _, _, _, _, _, _, _, _, _]) | exact (rfl : _ = [_, _, _, _, _, _, _, _, _, _, _]) | exact (rfl : _ = [_, _, _, _, _, _, _, _, _, _, _, _]) | exact (rfl : _ = [_, _, _, _, _, _, _, _, _, _, _, _, _]) | exact (rfl : _ = [_, _, _, _, _, _, _, _, _, _, _, _, _, _]) | exact (rfl : _ = [_, _, _, _, _, _, _, _, _, _, _, _, _, _, _]) | exact (rfl : _ = [_, _, _, _, _, _, _, _, _, _, _, _, _, _, _, _]))); (· first | rfl | (simp only [freeNs, noRefH, OB.cells, refsL_fv, refsL_app]; rfl)); (· exact (by first | exact (rfl : _ = []) | exact (rfl : _ = [_]) | exact (rfl : _ = [_, _]) | exact (rfl : _ = [_, _, _]) | exact (rfl : _ = [_, _, _, _]) | exact (rfl : _ = [_, _, _, _, _]) | exact (rfl : _ = [_, _, _, _, _, _]) | exact (rfl : _ = [_, _, _, _, _, _, _]) | exact (rfl : _ = [_, _, _, _, _, _, _, _]) | exact (rfl : _ = [_, _, _, _, _, _, _, _, _]) | exact (rfl : _ = [_, _, _, _, _, _, _, _, _, _]) | exact (rfl : _ = [_, _, _, _, _, _, _, _, _, _, _]) | exact (rfl : _ = [_, _, _, _, _, _, _, _, _, _, _, _]) | exact (rfl : _ = [_, _, _, _, _, _, _, _, _, _, _, _, _]) | exact (rfl : _ = [_, _, _, _, _, _, _, _, _, _, _, _, _, _]) | exact (rfl : _ = [_, _, _, _, _, _, _, _, _, _, _, _, _, _, _]) | exact (rfl : _ = [_, _, _, _, _, _, _, _, _, _, _, _, _, _, _, _]))))))
    | refine nd ?_
    | ((with_reducible apply drwK.mk); (· kernel_rfl); (· exact aF))
    | fail)
  refine .ofL (s' := ⟨[(6, .osl 7)], [(7, .row 36 4 S.length ((S.flatMap encFl).map .fv))]⟩) (by first | exact .inl rfl | exact .inr rfl) ?_ rfl rfl (by repeat' (first | exact trivial | refine ⟨⟨_, rfl, fun _ _ _ _ h => h⟩, ?_⟩))
  refine St.to [(7, .id 12)] [] rfl rfl ?_ ?_ <;> (repeat' (first | exact tA | refine t1 ?_ | exact tB | refine t2 ?_ ?_ | refine t3 ?_ | refine t4 ?_ ?_ | refine .ofEq ?_ | refine OB.To.cut rfl rfl ?_ ?_ ?_ ?_ | refine OB.To.box rfl rfl ?_ | refine ⟨⟨_, rfl, ?_⟩, ?_⟩ | refine ⟨?_, ?_⟩ | fail))
theorem patchedOf_F (l come gone : List Fl) (hf : FitL l) (hg : FitL gone) (hc : FitL come) (hl : l.length ≤ 1048576) (hgl : gone.length ≤ 1048576) (hcl : come.length ≤ 1048576) : Fun Try.prog 35 [.fv (slOf encFl l), .fv (slOf encFl come), .fv (slOf encFl gone)] (.fv (slOf encFl (patchF l come gone))) := (patchedOf_T l come gone hf hg hc hl hgl hcl).froz [7] (.frz rfl rfl rfl)
end Go.Proofs.Ytdbbmjdeeenlhaa

/- The law's own look at flows, where they are the same. -/
namespace Go.Proofs.Ytdbbmjdeeenlhaa
open Go.RowKit
set_option maxRecDepth 100000

theorem sameMx_T (l : List Mx) (hl : l.length ≤ 35184372088832) : Fun Try.prog 81 [.fv (slOf encMx l), .fv (slOf encMx l)] (.fv (.bool true)) := by
  refine Fun.body tbl_ok Try.func81 rfl (by kernel_rfl) rfl rfl rfl ?_
  repeat' (first
    | refine X.loc ?_
    | refine nx ?_
    | refine X.cdT ?_
    | refine X.cdF ?_
    | (refine WP.condBit rfl ?_ ?_)
    | (refine WP.cond rfl ?_ ?_ <;> intro hcond)
    | refine X.gst ?_ | refine X.gld ?_ | refine X.new ?_ | refine X.app ?_ | refine X.appS ?_ | refine X.stoW ?_ | refine X.stoB ?_ | refine X.stoR ?_ | refine X.gand ?_ | refine X.gor ?_
    | refine nd ?_
    | ((with_reducible apply drwK.mk); (· kernel_rfl); (· exact aF))
    | fail)
  refine WP.loop (ι := Nat) (fun k => ⟨[(0, .fv (slOf encMx l)), (1, .fv (slOf encMx l)), (5, .fv (.int .i64 k))], []⟩) (fun k => k ≤ l.length) (fun k => l.length - k) 0 (by omega) ?_ ?_
  · skip
    refine St.le_of ?_ ?_ <;> (repeat' (first | exact trivial | refine ⟨⟨_, rfl, .refl _⟩, ?_⟩ | refine ⟨⟨_, rfl, .any _⟩, ?_⟩ | refine ⟨⟨_, rfl, .of_eq ?_⟩, ?_⟩ | refine ⟨⟨_, rfl, fun _ _ _ _ h => h⟩, ?_⟩ | fail))
  rintro k hk
  try dsimp only
  by_cases hlt : k < l.length
  case neg =>
    repeat' (first
      | refine X.loc ?_
      | refine nx ?_
      | refine X.cdT ?_
      | refine X.cdF ?_
      | (refine WP.condBit rfl ?_ ?_)
      | (refine WP.cond rfl ?_ ?_ <;> intro hcond)
      | refine X.gst ?_ | refine X.gld ?_ | refine X.new ?_ | refine X.app ?_ | refine X.appS ?_ | refine X.stoW ?_ | refine X.stoB ?_ | refine X.stoR ?_ | refine X.gand ?_ | refine X.gor ?_
      | refine nd ?_
      | ((with_reducible apply drwK.mk); (· kernel_rfl); (· exact aF))
      | fail)
    exact .f1 (.inl rfl) rfl rfl
  case pos =>
    obtain ⟨x, hx⟩ : ∃ x, l[k]? = some x := ⟨_, List.getElem?_eq_getElem hlt⟩
    repeat' (first
      | refine X.loc ?_
      | refine nx ?_
      | refine X.cdT ?_
      | refine X.cdF ?_
      | (refine WP.condBit rfl ?_ ?_)
      | (refine WP.cond rfl ?_ ?_ <;> intro hcond)
      | refine X.gst ?_ | refine X.gld ?_ | refine X.new ?_ | refine X.app ?_ | refine X.appS ?_ | refine X.stoW ?_ | refine X.stoB ?_ | refine X.stoR ?_ | refine X.gand ?_ | refine X.gor ?_
      | refine nd ?_
      | ((with_reducible apply drwK.mk); (· kernel_rfl); (· exact aF))
      | fail)
    · exfalso
      simp [beqL, beqV] at hcond
    refine ⟨k + 1, by omega, by omega, ?_⟩
    try dsimp only
    refine St.le_of ?_ ?_ <;> (repeat' (first | exact trivial | refine ⟨⟨_, rfl, .refl _⟩, ?_⟩ | refine ⟨⟨_, rfl, .any _⟩, ?_⟩ | refine ⟨⟨_, rfl, .of_eq ?_⟩, ?_⟩ | refine ⟨⟨_, rfl, fun _ _ _ _ h => h⟩, ?_⟩ | fail))
theorem sameDx_T (l : List Dx) (hl : l.length ≤ 35184372088832) : Fun Try.prog 82 [.fv (slOf encDx l), .fv (slOf encDx l)] (.fv (.bool true)) := by
  refine Fun.body tbl_ok Try.func82 rfl (by kernel_rfl) rfl rfl rfl ?_
  repeat' (first
    | refine X.loc ?_
    | refine nx ?_
    | refine X.cdT ?_
    | refine X.cdF ?_
    | (refine WP.condBit rfl ?_ ?_)
    | (refine WP.cond rfl ?_ ?_ <;> intro hcond)
    | refine X.gst ?_ | refine X.gld ?_ | refine X.new ?_ | refine X.app ?_ | refine X.appS ?_ | refine X.stoW ?_ | refine X.stoB ?_ | refine X.stoR ?_ | refine X.gand ?_ | refine X.gor ?_
    | refine nd ?_
    | ((with_reducible apply drwK.mk); (· kernel_rfl); (· exact aF))
    | fail)
  refine WP.loop (ι := Nat) (fun k => ⟨[(0, .fv (slOf encDx l)), (1, .fv (slOf encDx l)), (5, .fv (.int .i64 k))], []⟩) (fun k => k ≤ l.length) (fun k => l.length - k) 0 (by omega) ?_ ?_
  · skip
    refine St.le_of ?_ ?_ <;> (repeat' (first | exact trivial | refine ⟨⟨_, rfl, .refl _⟩, ?_⟩ | refine ⟨⟨_, rfl, .any _⟩, ?_⟩ | refine ⟨⟨_, rfl, .of_eq ?_⟩, ?_⟩ | refine ⟨⟨_, rfl, fun _ _ _ _ h => h⟩, ?_⟩ | fail))
  rintro k hk
  try dsimp only
  by_cases hlt : k < l.length
  case neg =>
    repeat' (first
      | refine X.loc ?_
      | refine nx ?_
      | refine X.cdT ?_
      | refine X.cdF ?_
      | (refine WP.condBit rfl ?_ ?_)
      | (refine WP.cond rfl ?_ ?_ <;> intro hcond)
      | refine X.gst ?_ | refine X.gld ?_ | refine X.new ?_ | refine X.app ?_ | refine X.appS ?_ | refine X.stoW ?_ | refine X.stoB ?_ | refine X.stoR ?_ | refine X.gand ?_ | refine X.gor ?_
      | refine nd ?_
      | ((with_reducible apply drwK.mk); (· kernel_rfl); (· exact aF))
      | fail)
    exact .f1 (.inl rfl) rfl rfl
  case pos =>
    obtain ⟨x, hx⟩ : ∃ x, l[k]? = some x := ⟨_, List.getElem?_eq_getElem hlt⟩
    repeat' (first
      | refine X.loc ?_
      | refine nx ?_
      | refine X.cdT ?_
      | refine X.cdF ?_
      | (refine WP.condBit rfl ?_ ?_)
      | (refine WP.cond rfl ?_ ?_ <;> intro hcond)
      | refine X.gst ?_ | refine X.gld ?_ | refine X.new ?_ | refine X.app ?_ | refine X.appS ?_ | refine X.stoW ?_ | refine X.stoB ?_ | refine X.stoR ?_ | refine X.gand ?_ | refine X.gor ?_
      | refine nd ?_
      | ((with_reducible apply drwK.mk); (· kernel_rfl); (· exact aF))
      | fail)
    · exfalso
      simp [beqL, beqV] at hcond
    refine ⟨k + 1, by omega, by omega, ?_⟩
    try dsimp only
    refine St.le_of ?_ ?_ <;> (repeat' (first | exact trivial | refine ⟨⟨_, rfl, .refl _⟩, ?_⟩ | refine ⟨⟨_, rfl, .any _⟩, ?_⟩ | refine ⟨⟨_, rfl, .of_eq ?_⟩, ?_⟩ | refine ⟨⟨_, rfl, fun _ _ _ _ h => h⟩, ?_⟩ | fail))
set_option maxHeartbeats 2000000 in
theorem sameFl_T (l : List Fl) (hf : FitL l) (hl : l.length ≤ 35184372088832) : Fun Try.prog 31 [.fv (slOf encFl l), .fv (slOf encFl l)] (.fv (.bool true)) := by
  refine Fun.body tbl_ok Try.func31 rfl (by kernel_rfl) rfl rfl rfl ?_
  repeat' (first
    | refine X.loc ?_
    | refine nx ?_
    | refine X.cdT ?_
    | refine X.cdF ?_
    | (refine WP.condBit rfl ?_ ?_)
    | (refine WP.cond rfl ?_ ?_ <;> intro hcond)
    | refine X.gst ?_ | refine X.gld ?_ | refine X.new ?_ | refine X.app ?_ | refine X.appS ?_ | refine X.stoW ?_ | refine X.stoB ?_ | refine X.stoR ?_ | refine X.gand ?_ | refine X.gor ?_
    | refine nd ?_
    | ((with_reducible apply drwK.mk); (· kernel_rfl); (· exact aF))
    | fail)
  refine WP.loop (ι := Nat) (fun k => ⟨[(0, .fv (slOf encFl l)), (1, .fv (slOf encFl l)), (5, .fv (.int .i64 k))], []⟩) (fun k => k ≤ l.length) (fun k => l.length - k) 0 (by omega) ?_ ?_
  · skip
    refine St.le_of ?_ ?_ <;> (repeat' (first | exact trivial | refine ⟨⟨_, rfl, .refl _⟩, ?_⟩ | refine ⟨⟨_, rfl, .any _⟩, ?_⟩ | refine ⟨⟨_, rfl, .of_eq ?_⟩, ?_⟩ | refine ⟨⟨_, rfl, fun _ _ _ _ h => h⟩, ?_⟩ | fail))
  rintro k hk
  try dsimp only
  by_cases hlt : k < l.length
  case neg =>
    repeat' (first
      | refine X.loc ?_
      | refine nx ?_
      | refine X.cdT ?_
      | refine X.cdF ?_
      | (refine WP.condBit rfl ?_ ?_)
      | (refine WP.cond rfl ?_ ?_ <;> intro hcond)
      | refine X.gst ?_ | refine X.gld ?_ | refine X.new ?_ | refine X.app ?_ | refine X.appS ?_ | refine X.stoW ?_ | refine X.stoB ?_ | refine X.stoR ?_ | refine X.gand ?_ | refine X.gor ?_
      | refine nd ?_
      | ((with_reducible apply drwK.mk); (· kernel_rfl); (· exact aF))
      | fail)
    exact .f1 (.inl rfl) rfl rfl
  case pos =>
    obtain ⟨x, hx⟩ : ∃ x, l[k]? = some x := ⟨_, List.getElem?_eq_getElem hlt⟩
    have hxf := hf x (List.mem_of_getElem? hx)
    have c1 := sameMx_T x.ms
    have c2 := sameDx_T x.ds
    unfold Fl.Fit at hxf
    specialize c1 (by omega)
    specialize c2 (by omega)
    repeat' (first
      | (apply X.loE; (· exact aR); (· first | exact .callL rfl rfl rfl (by first | exact c1 | exact c2) rfl | (apply LEff.callBL; (· rfl); (· rfl); (· exact c1); (· exact aB); (· rfl)) | (apply LEff.callBL; (· rfl); (· rfl); (· exact c2); (· exact aB); (· rfl))))
      | refine X.loc ?_
      | refine nx ?_
      | refine X.cdT ?_
      | refine X.cdF ?_
      | (refine WP.condBit rfl ?_ ?_)
      | (refine WP.cond rfl ?_ ?_ <;> intro hcond)
      | (apply X.gsE; (· exact aR); (· exact aV); (· exact aW); (· intro hc; first | exact .callG rfl rfl rfl (by first | exact c1 | exact c2) rfl | (apply LEff.callBG; (· rfl); (· rfl); (· exact c1); (· exact aB); (· rfl)) | (apply LEff.callBG; (· rfl); (· rfl); (· exact c2); (· exact aB); (· rfl))); (· exact aR))
      | refine X.gst ?_ | refine X.gld ?_ | refine X.new ?_ | refine X.app ?_ | refine X.appS ?_ | refine X.stoW ?_ | refine X.stoB ?_ | refine X.stoR ?_ | refine X.gand ?_ | refine X.gor ?_
      | refine nd ?_
      | ((with_reducible apply drwK.mk); (· kernel_rfl); (· exact aF))
      | fail)
    · exfalso
      simp at hcond
    refine ⟨k + 1, by omega, by omega, ?_⟩
    try dsimp only
    refine St.le_of ?_ ?_ <;> (repeat' (first | exact trivial | refine ⟨⟨_, rfl, .refl _⟩, ?_⟩ | refine ⟨⟨_, rfl, .any _⟩, ?_⟩ | refine ⟨⟨_, rfl, .of_eq ?_⟩, ?_⟩ | refine ⟨⟨_, rfl, fun _ _ _ _ h => h⟩, ?_⟩ | fail))
end Go.Proofs.Ytdbbmjdeeenlhaa

/- Flows that came in, where what is read is of small bulk. -/
namespace Go.Proofs.Ytdbbmjdeeenlhaa
open Go.ChangeShapes Go.WideShapes Go.ChangeAt Go.RowKit Go.Deep
set_option maxRecDepth 100000

section
variable {H : Type} {enc : TypeId × Value → H} {P : Program} {w : World} {base : Nat} {spare : Nat → Bool} {held : Bool}
def BulkCl (_ : TypeId) (d : DataW H) : Prop := Rows.uptoBulk d ≤ 1048576
theorem bulk_mem : ∀ {l : List (DataW H)} {d : DataW H}, d ∈ l → Rows.uptoBulk d ≤ Rows.uptoBulkAll l
  | x :: l, d, h => by
    rw [Rows.uptoBulkAll]
    rcases List.mem_cons.1 h with rfl | h
    · omega
    · have := bulk_mem h
      omega
theorem bulk_pos (d : DataW H) : 1 ≤ Rows.uptoBulk d := by
  cases d with
  | lit v => cases v <;> simp [Rows.uptoBulk]
  | nil => simp [Rows.uptoBulk]
  | ptr d => simp [Rows.uptoBulk]
  | slice a b => simp [Rows.uptoBulk]
  | agg a => simp [Rows.uptoBulk]
  | iface t d => simp [Rows.uptoBulk]
  | map a => simp [Rows.uptoBulk]
  | held a => simp [Rows.uptoBulk]
theorem bulk_len : ∀ l : List (DataW H), l.length ≤ Rows.uptoBulkAll l
  | [] => Nat.zero_le _
  | x :: l => by
    have h1 := bulk_pos x
    have h2 := bulk_len l
    rw [Rows.uptoBulkAll, List.length_cons]
    omega
theorem closed_bulk : Closed (H := H) P BulkCl where
  ofStruct t fs parts hu hc i f d hf hd := by
    have h := bulk_mem (List.mem_of_getElem? hd)
    unfold BulkCl at *
    rw [Rows.uptoBulk] at hc
    omega
  ofArray t k e parts hu hc d hd := by
    have h := bulk_mem hd
    unfold BulkCl at *
    rw [Rows.uptoBulk] at hc
    omega
  ofSlice t e el sp hu hc d hd := by
    have h := bulk_mem hd
    unfold BulkCl at *
    rw [Rows.uptoBulk] at hc
    omega
theorem open_slB {α : Type} {ef : α → List FV} {Ok : α → Prop} {P : Program} {t e : TypeId} {n k : Nat} {ls : List Leaf} {v : Value} (hu : P.underlying t = some (.slice e)) (hl : leaves P n e = some ls) (hc : P.cellsOf e = k) (hk : ls.length = k) (hp : 0 < k)
    (hd : ∀ cs, AllOk enc P w base spare held BulkCl ls cs → ∃ x, Ok x ∧ RepF w (ef x) cs) (h : LeafOk enc P w base spare held BulkCl (.slice t) v) :
    ∃ l : List α, (∀ x ∈ l, Ok x) ∧ l.length ≤ 1048576 ∧ (slOf ef l).Rep (fun b => b < w.heap.size) w v := by
  obtain ⟨m, y, hm, hC⟩ := h
  obtain ⟨css, A, c, rfl, h1, h2, h3, h4, h5⟩ := open_slice_plain closed_bulk hu hl (hc.trans hk.symm) (by omega) hm hC
  obtain ⟨l, hlen, hok, hr⟩ := decode_repF hd css h3
  refine ⟨l, hok, ?_, by rw [← hlen]; exact rep_of_rd h4 hr (by omega) h2⟩
  rcases h5 with h5 | ⟨el, sp, hE, hel⟩
  · rw [h5] at hlen
    rw [hlen]
    simp
  · have h6 := bulk_len el
    unfold BulkCl at hE
    rw [Rows.uptoBulk] at hE
    omega
theorem flB_rep {cs : List Value} (h : AllOk enc Try.prog w base spare held BulkCl flLeaves cs) : ∃ f : Fl, (f.ms.length ≤ 1048576 ∧ f.ds.length ≤ 1048576) ∧ RepF w (encFl f) cs := by
  match cs, h.length with
  | [c0, c1, c2, c3], _ =>
    obtain ⟨⟨a0, rfl, b0⟩, ⟨a1, rfl, b1⟩, l2, l3, _⟩ := h
    obtain ⟨ms, o2, n2, r2⟩ := open_slB Try.underlying31 mtx_leaves mtx_cellsOf rfl (by omega) (fun _ h => mtx_rep h) l2
    obtain ⟨ds, o3, n3, r3⟩ := open_slB Try.underlying34 dsx_leaves dsx_cellsOf rfl (by omega) (fun _ h => dsx_rep h) l3
    exact ⟨⟨a0, a1, ms, ds⟩, ⟨n2, n3⟩, repF_cons rfl (repF_cons rfl (repF_cons r2 (repF_cons r3 repF_nil)))⟩
/-- Flows of small bulk find room. -/
theorem open_flowsB {v : Value} {d : DataW H} {p : List MemPlace} {r : Reach} {b0 : Nat} (hv : Value.okWide Try.prog w r b0 37 v) (h : DataW.Trod enc Try.prog w base spare held 37 v d p) (hs : Rows.uptoBulk d ≤ 1048576) :
    ∃ l : List Fl, Room l ∧ l.length ≤ 1048576 ∧ (slOf encFl l).Rep (fun b => b < w.heap.size) w v := by
  obtain ⟨A, len, cap, rfl⟩ := okWide_slice Try.underlying37 hv
  obtain ⟨m, hm⟩ := h
  obtain ⟨l, h1, h2, h3⟩ := open_slB Try.underlying37 fl_leaves fl_cellsOf rfl (by omega) (fun _ h => flB_rep h) ⟨m, (d, p), hm, hs⟩
  refine ⟨l, ⟨fun f hf => ?_, by omega⟩, h2, h3⟩
  have := h1 f hf
  unfold Fl.Fit
  omega
theorem bulk1 {d : DataW H} {ds gs : List (DataW H)} (h : Rows.uptoSmall H ((d :: ds) ++ gs) = true) : Rows.uptoBulk d ≤ 1048576 := by
  unfold Rows.uptoSmall at h
  have h := of_decide_eq_true h
  rw [List.cons_append, Rows.uptoBulkAll] at h
  omega
theorem bulk_in {d : DataW H} {l : List (DataW H)} (h : Rows.uptoSmall H l = true) (hd : d ∈ l) : Rows.uptoBulk d ≤ 1048576 := by
  unfold Rows.uptoSmall at h
  have h := of_decide_eq_true h
  have := bulk_mem hd
  omega
end
end Go.Proofs.Ytdbbmjdeeenlhaa

/- The law FlowPatches. -/
namespace Go.Proofs.Ytdbbmjdeeenlhaa
open Go.ChangeShapes Go.WideShapes Go.ChangeAt Go.RowKit
set_option maxRecDepth 100000

theorem flowPatches_T (l m g : List Fl) (rl : Room l) (ll : l.length ≤ 1048576) (rm : Room m) (lm : m.length ≤ 1048576) (rg : Room g) (lg : g.length ≤ 1048576) : Fun Try.prog 10 [.fv (slOf encFl l), .fv (slOf encFl m), .fv (slOf encFl g)] (.fv (.bool true)) := by
  have c1 := patchF_T l m g rl rg rm.fit (by omega)
  have c2 := patchedOf_F l m g rl.fit rg.fit rm.fit ll lg lm
  have h1 := leftF_len l g
  have h2 := sortedF_len (leftF l g ++ m)
  rw [List.length_append] at h2
  have hP : patchF l m g = sortedF (leftF l g ++ m) := rfl
  have c3 := sameFl_T (patchF l m g) (fun x hx => by
    rw [hP, sortedF_mem, List.mem_append] at hx
    rcases hx with h | h
    · exact rl.fit x (leftF_mem.1 h).1
    · exact rm.fit x h) (by rw [hP]; omega)
  clear hP h2
  generalize patchF l m g = S at *
  refine Fun.body tbl_ok Try.func10 rfl (by kernel_rfl) rfl rfl rfl ?_
  repeat' (first
    | (apply X.loE; (· exact aR); (· first | exact .callL rfl rfl rfl (by first | exact c1 | exact c2 | exact c3) rfl | (apply LEff.callBL; (· rfl); (· rfl); (· exact c1); (· exact aB); (· rfl)) | (apply LEff.callBL; (· rfl); (· rfl); (· exact c2); (· exact aB); (· rfl)) | (apply LEff.callBL; (· rfl); (· rfl); (· exact c3); (· exact aB); (· rfl))))
    | refine X.loc ?_
    | refine nx ?_
    | refine X.cdT ?_
    | refine X.cdF ?_
    | (refine WP.condBit rfl ?_ ?_)
    | (refine WP.cond rfl ?_ ?_ <;> intro hcond)
    | (apply X.gsE; (· exact aR); (· exact aV); (· exact aW); (· intro hc; first | exact .callG rfl rfl rfl (by first | exact c1 | exact c2 | exact c3) rfl | (apply LEff.callBG; (· rfl); (· rfl); (· exact c1); (· exact aB); (· rfl)) | (apply LEff.callBG; (· rfl); (· rfl); (· exact c2); (· exact aB); (· rfl)) | (apply LEff.callBG; (· rfl); (· rfl); (· exact c3); (· exact aB); (· rfl))); (· exact aR))
    | refine X.gst ?_ | refine X.gld ?_ | refine X.new ?_ | refine X.app ?_ | refine X.appS ?_ | refine X.stoW ?_ | refine X.stoB ?_ | refine X.stoR ?_ | refine X.gand ?_ | refine X.gor ?_
    | refine nd ?_
    | ((with_reducible apply drwK.mk); (· kernel_rfl); (· exact aF))
    | fail)
  exact .f1 (.inl rfl) rfl rfl

theorem flowPatches_open {H : Type} {enc : TypeId × Value → H} (W : World) (base : Nat) {v0 v1 v2 : Value} {d0 d1 d2 : DataW H} {p0 p1 p2 : List MemPlace} (hv0 : Value.okWide Try.prog W .any base 37 v0) (h0 : DataW.Trod enc Try.prog W 0 (fun _ => true) true 37 v0 d0 p0) (_hs0 : SizedCl Try.prog 37 d0) (hv1 : Value.okWide Try.prog W .any base 37 v1) (h1 : DataW.Trod enc Try.prog W 0 (fun _ => true) true 37 v1 d1 p1) (_hs1 : SizedCl Try.prog 37 d1) (hv2 : Value.okWide Try.prog W .any base 37 v2) (h2 : DataW.Trod enc Try.prog W 0 (fun _ => true) true 37 v2 d2 p2) (_hs2 : SizedCl Try.prog 37 d2) {gs : List (DataW H)} (hk : Rows.uptoSmall H ([d0, d1, d2] ++ gs) = true) : Calls Try.prog 10 #[v0, v1, v2] W fun e W' => e = .returned (.bool true) ∧ Below W.heap.size W W' := by
  obtain ⟨l, rl, ll, el⟩ := open_flowsB hv0 h0 (bulk_in hk (by simp))
  obtain ⟨m, rm, lm, em⟩ := open_flowsB hv1 h1 (bulk_in hk (by simp))
  obtain ⟨g, rg, lg, eg⟩ := open_flowsB hv2 h2 (bulk_in hk (by simp))
  exact (flowPatches_T l m g rl ll rm lm rg lg).yes ⟨el, em, eg, trivial⟩
end Go.Proofs.Ytdbbmjdeeenlhaa
