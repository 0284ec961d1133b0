import Derived.Test.YtmidechdlbcepaaGreatPack30
set_option linter.unusedSimpArgs false
set_option linter.unusedVariables false
namespace Go.Proofs.YtmidechdlbcepaaGreat.AS
open Go.RowKit
set_option maxRecDepth 100000

def rotL (l : List Ar) (m i j : Nat) : List Ar :=
  if h : i = j ∨ i = 0 ∨ j = 0 then swpN l (m - i) m i
  else if j < i then rotL (swpN l (m - i) m j) m (i - j) j
  else rotL (swpN l (m - i) (m + j - i) i) m i (j - i)
termination_by i + j
decreasing_by all_goals omega
theorem rotL_len (l : List Ar) (m i j : Nat) : (rotL l m i j).length = l.length := by
  unfold rotL
  split
  · exact swpN_len ..
  · split
    · rw [rotL_len, swpN_len]
    · rw [rotL_len, swpN_len]
termination_by i + j
decreasing_by all_goals omega
set_option maxHeartbeats 4000000 in
theorem rotate_T (l : List Ar) (a m b : Nat) (ha : a < m) (hm : m < b) (hb : b ≤ l.length) (hl : l.length ≤ 40) : FunO Tryz.prog 159 [.osl 1000, .fv (.int .i64 a), .fv (.int .i64 m), .fv (.int .i64 b), .fn 78 []] [(1000, arRw l)] (.tup []) [(1000, arRw (rotL l m (m - a) (b - m)))] := by
  refine FunO.bodyL tbl_ok Tryz.func159 rfl (by kernel_rfl) rfl rfl rfl ?_
  have hTl := rotL_len l m (m - a) (b - m)
  generalize hT : rotL l m (m - a) (b - m) = T at *
  have sw := fun R a b n h1 h2 h3 => swapRange_T R a b n h1 h2 h3
  unfold arRw at sw
  unfold arRw
  repeat' (first | refine X.loc ?_ | refine nx ?_ | refine X.cdT ?_ | refine X.cdF ?_ | (refine WP.condBit rfl ?_ ?_) | (refine WP.cond rfl ?_ ?_ <;> intro hcond) | refine rb ?_ | refine nd ?_ | refine dk ?_ | fail)
  refine WP.loop (ι := Nat × Nat × List Ar) (fun q => ⟨[(0, .osl 1000), (2, .fv (.int .i64 m)), (4, .fn 78 []), (10, .fv (.int .i64 q.1)), (11, .fv (.int .i64 q.2.1))], [(1000, .row 41 9 q.2.2.length ((q.2.2.flatMap encAr).map .fv))]⟩) (fun q => 0 < q.1 ∧ 0 < q.2.1 ∧ q.1 ≤ m ∧ m + q.2.1 ≤ q.2.2.length ∧ q.2.2.length = l.length ∧ rotL q.2.2 m q.1 q.2.1 = T) (fun q => q.1 + q.2.1) (m - a, b - m, l) ⟨by dsimp only; omega, by dsimp only; omega, by dsimp only; omega, by dsimp only; omega, rfl, hT⟩ ?_ ?_
  · try dsimp only
    rw [show ((m - a : Nat) : Int) = (m : Int) - (a : Int) by omega, show ((b - m : Nat) : Int) = (b : Int) - (m : Int) by omega]
    refine St.to [] [] rfl rfl ?_ ?_ <;> (repeat' (first | exact tA | refine t1 ?_ | exact tB | refine t2 ?_ ?_ | refine t3 ?_ | refine t4 ?_ ?_ | refine .ofEq ?_ | refine OB.To.cut rfl rfl ?_ ?_ ?_ ?_ | refine OB.To.box rfl rfl ?_ | refine ⟨⟨_, rfl, ?_⟩, ?_⟩ | refine ⟨?_, ?_⟩ | fail))
  rintro ⟨i, j, R⟩ ⟨g1, g2, g3, g4, g5, g6⟩
  try dsimp only at g1 g2 g3 g4 g5 g6
  try dsimp only
  rw [rotL] at g6
  by_cases hij : i = j
  · subst hij
    rw [dif_pos (.inl rfl)] at g6
    have u1 := sw R (m - i) m i (by omega) (by omega) (by omega)
    rw [g6, show ((m - i : Nat) : Int) = (m : Int) - (i : Int) by omega] at u1
    clear g6 hT
    repeat' (first | refine X.loc ?_ | refine nx ?_ | refine X.cdT ?_ | refine X.cdF ?_ | (refine WP.condBit rfl ?_ ?_) | (refine WP.cond rfl ?_ ?_ <;> intro hcond) | refine rb ?_ | refine X.c0 (u1) ?_ | refine nd ?_ | refine dk ?_ | fail)
    refine .ofL (s' := ⟨[], [(1000, .row 41 9 T.length ((T.flatMap encAr).map .fv))]⟩) (by first | exact .inl rfl | exact .inr rfl) ?_ rfl rfl (by repeat' (first | exact trivial | refine ⟨⟨_, rfl, fun _ _ _ _ h => h⟩, ?_⟩))
    refine St.to [] [] rfl rfl ?_ ?_ <;> (repeat' (first | exact tA | refine t1 ?_ | exact tB | refine t2 ?_ ?_ | refine t3 ?_ | refine t4 ?_ ?_ | refine .ofEq ?_ | refine OB.To.cut rfl rfl ?_ ?_ ?_ ?_ | refine OB.To.box rfl rfl ?_ | refine ⟨⟨_, rfl, ?_⟩, ?_⟩ | refine ⟨?_, ?_⟩ | fail))
  · rw [dif_neg (by omega)] at g6
    by_cases hlt : j < i
    · rw [if_pos hlt] at g6
      have u1 := sw R (m - i) m j (by omega) (by omega) (by omega)
      have hl1 := swpN_len R (m - i) m j
      generalize swpN R (m - i) m j = R2 at *
      rw [show ((m - i : Nat) : Int) = (m : Int) - (i : Int) by omega] at u1
      repeat' (first | refine X.loc ?_ | refine nx ?_ | refine X.cdT ?_ | refine X.cdF ?_ | (refine WP.condBit rfl ?_ ?_) | (refine WP.cond rfl ?_ ?_ <;> intro hcond) | refine rb ?_ | refine X.c0 (u1) ?_ | refine nd ?_ | refine dk ?_ | fail)
      refine ⟨(i - j, j, R2), ⟨by dsimp only; omega, g2, by dsimp only; omega, by dsimp only; omega, by dsimp only; omega, g6⟩, by dsimp only; omega, ?_⟩
      try dsimp only
      rw [show ((i - j : Nat) : Int) = (i : Int) - (j : Int) by omega]
      refine St.to [] [] rfl rfl ?_ ?_ <;> (repeat' (first | exact tA | refine t1 ?_ | exact tB | refine t2 ?_ ?_ | refine t3 ?_ | refine t4 ?_ ?_ | refine .ofEq ?_ | refine OB.To.cut rfl rfl ?_ ?_ ?_ ?_ | refine OB.To.box rfl rfl ?_ | refine ⟨⟨_, rfl, ?_⟩, ?_⟩ | refine ⟨?_, ?_⟩ | fail))
    · rw [if_neg hlt] at g6
      have u1 := sw R (m - i) (m + j - i) i (by omega) (by omega) (by omega)
      have hl1 := swpN_len R (m - i) (m + j - i) i
      generalize swpN R (m - i) (m + j - i) i = R2 at *
      rw [show ((m - i : Nat) : Int) = (m : Int) - (i : Int) by omega, show ((m + j - i : Nat) : Int) = (m : Int) + (j : Int) - (i : Int) by omega] at u1
      repeat' (first | refine X.loc ?_ | refine nx ?_ | refine X.cdT ?_ | refine X.cdF ?_ | (refine WP.condBit rfl ?_ ?_) | (refine WP.cond rfl ?_ ?_ <;> intro hcond) | refine rb ?_ | refine X.c0 (u1) ?_ | refine nd ?_ | refine dk ?_ | fail)
      refine ⟨(i, j - i, R2), ⟨g1, by dsimp only; omega, g3, by dsimp only; omega, by dsimp only; omega, g6⟩, by dsimp only; omega, ?_⟩
      try dsimp only
      rw [show ((j - i : Nat) : Int) = (j : Int) - (i : Int) by omega]
      refine St.to [] [] rfl rfl ?_ ?_ <;> (repeat' (first | exact tA | refine t1 ?_ | exact tB | refine t2 ?_ ?_ | refine t3 ?_ | refine t4 ?_ ?_ | refine .ofEq ?_ | refine OB.To.cut rfl rfl ?_ ?_ ?_ ?_ | refine OB.To.box rfl rfl ?_ | refine ⟨⟨_, rfl, ?_⟩, ?_⟩ | refine ⟨?_, ?_⟩ | fail))
end Go.Proofs.YtmidechdlbcepaaGreat.AS

namespace Go.Proofs.YtmidechdlbcepaaGreat.AS
open Go.RowKit

theorem swp_gen (U V W : List Ar) (x y : Ar) : swp (U ++ x :: (V ++ y :: W)) U.length (U.length + 1 + V.length) = U ++ y :: (V ++ x :: W) := by
  have h1 : (U ++ x :: (V ++ y :: W))[U.length]? = some x := by rw [List.getElem?_append_right (by omega)]; simp
  have h2 : (U ++ x :: (V ++ y :: W))[U.length + 1 + V.length]? = some y := by
    rw [List.getElem?_append_right (by omega), show U.length + 1 + V.length - U.length = V.length + 1 by omega, List.getElem?_cons_succ, List.getElem?_append_right (by omega)]
    simp
  rw [swp, h1, h2]
  dsimp only
  rw [List.set_append_right _ _ (by omega), Nat.sub_self, List.set_cons_zero, List.set_append_right _ _ (by omega), show U.length + 1 + V.length - U.length = V.length + 1 by omega, List.set_cons_succ, List.set_append_right _ _ (by omega), Nat.sub_self, List.set_cons_zero]
theorem swpN_is (P X M Y Q : List Ar) (h : X.length = Y.length) : ∀ k, k ≤ X.length → swpN (P ++ X ++ M ++ Y ++ Q) P.length (P.length + X.length + M.length) k = P ++ Y.take k ++ X.drop k ++ M ++ X.take k ++ Y.drop k ++ Q
  | 0, _ => by simp [swpN]
  | k + 1, hk => by
    have ih := swpN_is P X M Y Q h k (by omega)
    obtain ⟨x, hx⟩ : ∃ x, X[k]? = some x := ⟨_, List.getElem?_eq_getElem (by omega)⟩
    obtain ⟨y, hy⟩ : ∃ y, Y[k]? = some y := ⟨_, List.getElem?_eq_getElem (by omega)⟩
    have dx : X.drop k = x :: X.drop (k + 1) := by rw [List.drop_eq_getElem_cons (by omega), (List.getElem?_eq_some_iff.1 hx).2]
    have dy : Y.drop k = y :: Y.drop (k + 1) := by rw [List.drop_eq_getElem_cons (by omega), (List.getElem?_eq_some_iff.1 hy).2]
    have tx : X.take (k + 1) = X.take k ++ [x] := by rw [List.take_add_one, hx]; rfl
    have ty : Y.take (k + 1) = Y.take k ++ [y] := by rw [List.take_add_one, hy]; rfl
    rw [swpN, ih, dx, dy, tx, ty]
    have e : P ++ Y.take k ++ x :: X.drop (k + 1) ++ M ++ X.take k ++ y :: Y.drop (k + 1) ++ Q = (P ++ Y.take k) ++ x :: ((X.drop (k + 1) ++ M ++ X.take k) ++ y :: (Y.drop (k + 1) ++ Q)) := by simp
    have l1 : P.length + k = (P ++ Y.take k).length := by rw [List.length_append, List.length_take]; omega
    have l2 : P.length + X.length + M.length + k = (P ++ Y.take k).length + 1 + (X.drop (k + 1) ++ M ++ X.take k).length := by
      simp only [List.length_append, List.length_take, List.length_drop]
      omega
    rw [e, l1, l2, swp_gen]
    simp
theorem swpN_all (P X M Y Q : List Ar) (h : X.length = Y.length) : swpN (P ++ X ++ M ++ Y ++ Q) P.length (P.length + X.length + M.length) X.length = P ++ Y ++ M ++ X ++ Q := by
  rw [swpN_is P X M Y Q h X.length (Nat.le_refl _), List.take_length, List.drop_length, h, List.take_length, List.drop_length]
  simp
theorem rotL_is : ∀ (n : Nat) (P X Y Q : List Ar), X.length + Y.length = n → 0 < X.length → 0 < Y.length → rotL (P ++ X ++ Y ++ Q) (P.length + X.length) X.length Y.length = P ++ Y ++ X ++ Q := by
  intro n
  induction n using Nat.strongRecOn with
  | _ n ih =>
    intro P X Y Q hn h1 h2
    rw [rotL]
    by_cases he : X.length = Y.length
    · rw [dif_pos (.inl he), show P.length + X.length - X.length = P.length by omega]
      have := swpN_all P X [] Y Q he
      simpa using this
    · rw [dif_neg (by omega)]
      by_cases hlt : Y.length < X.length
      · rw [if_pos hlt, show P.length + X.length - X.length = P.length by omega]
        have e1 : X = X.take Y.length ++ X.drop Y.length := (List.take_append_drop _ _).symm
        have l1 : (X.take Y.length).length = Y.length := by rw [List.length_take]; omega
        have l2 : (X.drop Y.length).length = X.length - Y.length := List.length_drop
        generalize X.take Y.length = X1 at *
        generalize X.drop Y.length = X2 at *
        have hs := swpN_all P X1 X2 Y Q l1
        have hx : X.length = X1.length + X2.length := by rw [e1, List.length_append]
        have e2 : P ++ X ++ Y ++ Q = P ++ X1 ++ X2 ++ Y ++ Q := by rw [e1]; simp
        rw [e2, show P.length + X.length = P.length + X1.length + X2.length by omega, ← l1, hs]
        have hr := ih (X2.length + X1.length) (by omega) (P ++ Y) X2 X1 Q rfl (by omega) (by omega)
        rw [show X.length - X1.length = X2.length by omega, show P.length + X1.length + X2.length = (P ++ Y).length + X2.length by rw [List.length_append]; omega, hr, e1]
        simp
      · rw [if_neg hlt, show P.length + X.length - X.length = P.length by omega]
        have e1 : Y = Y.take (Y.length - X.length) ++ Y.drop (Y.length - X.length) := (List.take_append_drop _ _).symm
        have l1 : (Y.take (Y.length - X.length)).length = Y.length - X.length := by rw [List.length_take]; omega
        have l2 : (Y.drop (Y.length - X.length)).length = X.length := by rw [List.length_drop]; omega
        generalize Y.take (Y.length - X.length) = Y1 at *
        generalize Y.drop (Y.length - X.length) = Y2 at *
        have hs := swpN_all P X Y1 Y2 Q l2.symm
        have hy : Y.length = Y1.length + Y2.length := by rw [e1, List.length_append]
        have e2 : P ++ X ++ Y ++ Q = P ++ X ++ Y1 ++ Y2 ++ Q := by rw [e1]; simp
        rw [e2, show P.length + X.length + Y.length - X.length = P.length + X.length + Y1.length by omega, hs]
        have hr := ih (Y2.length + Y1.length) (by omega) P Y2 Y1 (X ++ Q) rfl (by omega) (by omega)
        have e3 : P ++ Y2 ++ Y1 ++ X ++ Q = P ++ Y2 ++ Y1 ++ (X ++ Q) := by simp
        rw [e3, ← l1, show P.length + X.length = P.length + Y2.length by omega, ← l2, hr, e1]
        simp
end Go.Proofs.YtmidechdlbcepaaGreat.AS

namespace Go.Proofs.YtmidechdlbcepaaGreat.AS
open Go.RowKit
set_option maxRecDepth 100000

theorem U64.wrap {a : Int} (h1 : 0 ≤ a) (h2 : a ≤ 9223372036854775807) : IntKind.u64.wrap a = a := by
  simp [IntKind.wrap, IntKind.signed, IntKind.bits]
  omega
theorem ord_at {l : List Ar} {a b i j : Nat} (h : ((l.take b).drop a).Pairwise fun x y => y.prio ≤ x.prio) (hi : a ≤ i) (hij : i ≤ j) (hj : j < b) {x y : Ar} (hx : l[i]? = some x) (hy : l[j]? = some y) : y.prio ≤ x.prio := by
  rcases Nat.lt_or_ge i j with hlt | hge
  · have e1 : ((l.take b).drop a)[i - a]? = some x := by rw [List.getElem?_drop, show a + (i - a) = i by omega, List.getElem?_take_of_lt (by omega), hx]
    have e2 : ((l.take b).drop a)[j - a]? = some y := by rw [List.getElem?_drop, show a + (j - a) = j by omega, List.getElem?_take_of_lt (by omega), hy]
    obtain ⟨g1, e1⟩ := List.getElem?_eq_some_iff.1 e1
    obtain ⟨g2, e2⟩ := List.getElem?_eq_some_iff.1 e2
    have := List.pairwise_iff_getElem.1 h (i - a) (j - a) g1 g2 (by omega)
    rwa [e1, e2] at this
  · obtain rfl : i = j := by omega
    rw [hx] at hy
    obtain rfl := Option.some.inj hy
    exact Int.le_refl _
end Go.Proofs.YtmidechdlbcepaaGreat.AS

namespace Go.Proofs.YtmidechdlbcepaaGreat.AS
open Go.RowKit
set_option maxRecDepth 100000

def mvF (l : List Ar) (a : Nat) : Nat → List Ar
  | 0 => l
  | t + 1 => swp (mvF l a t) (a + t) (a + t + 1)
theorem mvF_len (l : List Ar) (a : Nat) : ∀ t, (mvF l a t).length = l.length
  | 0 => rfl
  | t + 1 => by rw [mvF, swp_len, mvF_len l a t]
theorem mvF_is (P : List Ar) (x : Ar) : ∀ (Y Q : List Ar), mvF (P ++ x :: (Y ++ Q)) P.length Y.length = P ++ Y ++ x :: Q := by
  have key : ∀ (t : Nat) (Y Q : List Ar), t ≤ Y.length → mvF (P ++ x :: (Y ++ Q)) P.length t = P ++ Y.take t ++ x :: (Y.drop t ++ Q) := by
    intro t
    induction t with
    | zero => intro Y Q _; simp [mvF]
    | succ t ih =>
      intro Y Q ht
      rw [mvF, ih Y Q (by omega)]
      obtain ⟨y, hy⟩ : ∃ y, Y[t]? = some y := ⟨_, List.getElem?_eq_getElem (by omega)⟩
      have dy : Y.drop t = y :: Y.drop (t + 1) := by rw [List.drop_eq_getElem_cons (by omega), (List.getElem?_eq_some_iff.1 hy).2]
      have ty : Y.take (t + 1) = Y.take t ++ [y] := by rw [List.take_add_one, hy]; rfl
      have l1 : P.length + t = (P ++ Y.take t).length := by rw [List.length_append, List.length_take]; omega
      rw [dy, ty, l1]
      have := swp_gen (P ++ Y.take t) [] (Y.drop (t + 1) ++ Q) x y
      simp only [List.length_nil, Nat.add_zero, List.nil_append] at this
      rw [List.cons_append, this]
      simp
  intro Y Q
  have := key Y.length Y Q (Nat.le_refl _)
  simpa using this
theorem sortA_id {l : List Ar} (h : l.Pairwise fun x y => y.prio ≤ x.prio) : sortA l = l := (StabA.is ⟨h, fun _ => rfl⟩).symm
theorem mv_sort {P B1 B2 Q : List Ar} {x : Ar} (hB : (B1 ++ B2).Pairwise fun x y => y.prio ≤ x.prio) (h1 : ∀ y ∈ B1, cmpA y x < 0) (h2 : ∀ y ∈ B2, ¬ cmpA y x < 0) : mvF (P ++ x :: (B1 ++ B2 ++ Q)) P.length B1.length = P ++ sortA (x :: (B1 ++ B2)) ++ Q := by
  obtain ⟨o1, o2, o3⟩ := List.pairwise_append.1 hB
  unfold cmpA at h1 h2
  have hs := sortA_split (A1 := []) (A2 := [x]) (B1 := B1) (B2 := B2) (by simp) (by simp) (fun y hy z hz => by obtain rfl := List.mem_singleton.1 hz; have := h1 y hy; omega) o3
  have hx : sortA ([x] ++ B2) = x :: B2 := sortA_id (List.pairwise_cons.2 ⟨fun y hy => by have := h2 y hy; omega, o2⟩)
  rw [List.nil_append, List.nil_append, sortA_id o1, hx] at hs
  rw [show x :: (B1 ++ B2) = [x] ++ (B1 ++ B2) from rfl, ← hs, List.append_assoc B1 B2 Q, mvF_is]
  simp
end Go.Proofs.YtmidechdlbcepaaGreat.AS

namespace Go.Proofs.YtmidechdlbcepaaGreat.AS
open Go.RowKit
set_option maxRecDepth 100000

def mvB (l : List Ar) (m : Nat) : Nat → List Ar
  | 0 => l
  | t + 1 => swp (mvB l m t) (m - t) (m - t - 1)
theorem mvB_len (l : List Ar) (m : Nat) : ∀ t, (mvB l m t).length = l.length
  | 0 => rfl
  | t + 1 => by rw [mvB, swp_len, mvB_len l m t]
theorem mvB_at (P : List Ar) (y : Ar) (Y Q : List Ar) : ∀ t, t ≤ Y.length → mvB (P ++ Y ++ y :: Q) (P.length + Y.length) t = P ++ Y.take (Y.length - t) ++ y :: (Y.drop (Y.length - t) ++ Q)
  | 0, _ => by simp [mvB]
  | t + 1, ht => by
    rw [mvB, mvB_at P y Y Q t (by omega)]
    obtain ⟨k, hk⟩ : ∃ k, Y.length - t = k + 1 := ⟨Y.length - t - 1, by omega⟩
    obtain ⟨x, hx⟩ : ∃ x, Y[k]? = some x := ⟨_, List.getElem?_eq_getElem (by omega)⟩
    have tx : Y.take (k + 1) = Y.take k ++ [x] := by rw [List.take_add_one, hx]; rfl
    have dx : Y.drop k = x :: Y.drop (k + 1) := by rw [List.drop_eq_getElem_cons (by omega), (List.getElem?_eq_some_iff.1 hx).2]
    have e : Y.length - (t + 1) = k := by omega
    rw [e, hk, tx, dx]
    have l1 : P.length + Y.length - t = (P ++ Y.take k).length + 1 := by rw [List.length_append, List.length_take]; omega
    have e2 : P ++ (Y.take k ++ [x]) ++ y :: (Y.drop (k + 1) ++ Q) = (P ++ Y.take k) ++ x :: y :: (Y.drop (k + 1) ++ Q) := by simp
    rw [l1, Nat.add_sub_cancel, e2, swp_two]
    simp
theorem mvB_sort {P A1 A2 Q : List Ar} {y : Ar} (hA : (A1 ++ A2).Pairwise fun x y => y.prio ≤ x.prio) (h1 : ∀ x ∈ A1, ¬ cmpA y x < 0) (h2 : ∀ x ∈ A2, cmpA y x < 0) : mvB (P ++ (A1 ++ A2) ++ y :: Q) (P.length + (A1 ++ A2).length) A2.length = P ++ sortA (A1 ++ A2 ++ [y]) ++ Q := by
  obtain ⟨o1, o2, o3⟩ := List.pairwise_append.1 hA
  unfold cmpA at h1 h2
  have hs := sortA_split (A1 := A1) (A2 := A2) (B1 := [y]) (B2 := []) (by simp) o3 (fun z hz x hx => by obtain rfl := List.mem_singleton.1 hz; have := h2 x hx; omega) (by simp)
  have hx : sortA (A1 ++ [y]) = A1 ++ [y] := sortA_id (List.pairwise_append.2 ⟨o1, List.pairwise_singleton _ _, fun x hx z hz => by obtain rfl := List.mem_singleton.1 hz; have := h1 x hx; omega⟩)
  rw [List.append_nil, List.append_nil, sortA_id o2, hx] at hs
  rw [← hs, mvB_at P y (A1 ++ A2) Q A2.length (by simp)]
  rw [show (A1 ++ A2).length - A2.length = A1.length by simp, List.take_left, List.drop_left]
  simp
end Go.Proofs.YtmidechdlbcepaaGreat.AS

namespace Go.Proofs.YtmidechdlbcepaaGreat.AS
open Go.RowKit
set_option maxRecDepth 100000

def mrgL (l : List Ar) (a b : Nat) : List Ar := l.take a ++ sortA ((l.take b).drop a) ++ l.drop b
theorem split3 {l : List Ar} {a b c : Nat} (h1 : a ≤ b) (h2 : b ≤ c) : (l.take c).drop a = (l.take b).drop a ++ (l.take c).drop b := by
  have e : l.take b = (l.take c).take b := by rw [List.take_take, Nat.min_eq_left h2]
  rw [e, List.drop_take, List.drop_take]
  have e2 : ((l.take c).drop a).drop (b - a) = (l.take c).drop b := by rw [List.drop_drop, show a + (b - a) = b by omega]
  rw [List.drop_drop] at e2
  have := List.take_append_drop (b - a) ((l.take c).drop a)
  rw [List.drop_drop, show a + (b - a) = b by omega] at this
  rw [List.drop_take] at this
  rw [List.drop_take] at this
  simpa [List.drop_take] using this.symm
theorem seg_mem {l : List Ar} {a b : Nat} {x : Ar} (h : x ∈ (l.take b).drop a) : ∃ k, a ≤ k ∧ k < b ∧ l[k]? = some x := by
  obtain ⟨k, hk⟩ := List.mem_iff_getElem?.1 h
  rw [List.getElem?_drop] at hk
  have hlt : a + k < b := by
    have := (List.getElem?_eq_some_iff.1 hk).1
    rw [List.length_take] at this
    omega
  rw [List.getElem?_take_of_lt hlt] at hk
  exact ⟨a + k, by omega, hlt, hk⟩
theorem mrg_one {l : List Ar} {a b i : Nat} {x : Ar} (hx : l[a]? = some x) (h1 : a + 1 ≤ i) (h2 : i ≤ b) (hb : b ≤ l.length) (ho : ((l.take b).drop (a + 1)).Pairwise fun x y => y.prio ≤ x.prio) (p1 : ∀ k y, a + 1 ≤ k → k < i → l[k]? = some y → cmpA y x < 0) (p2 : ∀ k y, i ≤ k → k < b → l[k]? = some y → ¬ cmpA y x < 0) : mvF l a (i - (a + 1)) = mrgL l a b := by
  have e1 := split3 (l := l) (a := a + 1) (b := i) (c := b) h1 h2
  have hP : (l.take a).length = a := by rw [List.length_take]; omega
  have hB : ((l.take i).drop (a + 1)).length = i - (a + 1) := by rw [List.length_drop, List.length_take]; omega
  have e3 : (l.take b).drop a = x :: (l.take b).drop (a + 1) := by
    have hx2 : (l.take b)[a]? = some x := by rw [List.getElem?_take_of_lt (by omega), hx]
    rw [List.drop_eq_getElem_cons (List.getElem?_eq_some_iff.1 hx2).1, (List.getElem?_eq_some_iff.1 hx2).2]
  have e2 : l = l.take a ++ x :: ((l.take b).drop (a + 1) ++ l.drop b) := by
    have h3 : l.take b = l.take a ++ (l.take b).drop a := by
      have := List.take_append_drop a (l.take b)
      rw [List.take_take, Nat.min_eq_left (by omega)] at this
      exact this.symm
    have h4 := List.take_append_drop b l
    rw [h3, e3] at h4
    rw [List.append_assoc] at h4
    exact h4.symm
  have := mv_sort (P := l.take a) (B1 := (l.take i).drop (a + 1)) (B2 := (l.take b).drop i) (Q := l.drop b) (x := x) (by rw [← e1]; exact ho) (fun y hy => by
    obtain ⟨k, k1, k2, k3⟩ := seg_mem hy
    exact p1 k y k1 k2 k3) (fun y hy => by
    obtain ⟨k, k1, k2, k3⟩ := seg_mem hy
    exact p2 k y k1 k2 k3)
  rw [← e1, ← e2, hP, hB] at this
  rw [this, mrgL, e3]
end Go.Proofs.YtmidechdlbcepaaGreat.AS

namespace Go.Proofs.YtmidechdlbcepaaGreat.AS
open Go.RowKit
set_option maxRecDepth 100000

set_option maxHeartbeats 8000000 in
theorem symMerge1_T (l : List Ar) (a b : Nat) (hr : ∀ x ∈ l, ArR x) (ha : a + 1 < b) (hb : b ≤ l.length) (hl : l.length ≤ 40) (ho : ((l.take b).drop (a + 1)).Pairwise fun x y => y.prio ≤ x.prio) : FunO Tryz.prog 144 [.osl 1000, .fv (.int .i64 a), .fv (.int .i64 (a + 1 : Nat)), .fv (.int .i64 b), .fn 78 []] [(1000, arRw l)] (.tup []) [(1000, arRw (mrgL l a b))] := by
  refine FunO.bodyL tbl_ok Tryz.func144 rfl (by kernel_rfl) rfl rfl rfl ?_
  unfold arRw
  rw [show ((a + 1 : Nat) : Int) = (a : Int) + 1 by omega]
  obtain ⟨x, hx⟩ : ∃ x, l[a]? = some x := ⟨_, List.getElem?_eq_getElem (by omega)⟩
  have hxr := hr x (List.mem_of_getElem? hx)
  have hmg := fun i => @mrg_one l a b i x hx
  repeat' (first | refine X.loc ?_ | refine nx ?_ | refine X.cdT ?_ | refine X.cdF ?_ | (refine WP.condBit rfl ?_ ?_) | (refine WP.cond rfl ?_ ?_ <;> intro hcond) | refine rb ?_ | refine nd ?_ | refine dk ?_ | fail)
  refine WP.loop (ι := Nat × Nat) (fun q => ⟨[(0, .osl 1000), (1, .fv (.int .i64 a)), (2, .fv (.int .i64 ((a : Int) + 1))), (3, .fv (.int .i64 b)), (4, .fn 78 []), (10, .fv (.int .i64 q.1)), (11, .fv (.int .i64 q.2))], [(1000, .row 41 9 l.length ((l.flatMap encAr).map .fv))]⟩) (fun q => a + 1 ≤ q.1 ∧ q.1 ≤ q.2 ∧ q.2 ≤ b ∧ (∀ k y, a + 1 ≤ k → k < q.1 → l[k]? = some y → cmpA y x < 0) ∧ (∀ k y, q.2 ≤ k → k < b → l[k]? = some y → ¬ cmpA y x < 0)) (fun q => q.2 - q.1) (a + 1, b) ⟨by dsimp only; omega, by dsimp only; omega, by dsimp only; omega, fun k y h1 h2 => by dsimp only at h2; omega, fun k y h1 h2 => by dsimp only at h1; omega⟩ ?_ ?_
  · try dsimp only
    rw [show ((a + 1 : Nat) : Int) = (a : Int) + 1 by omega]
    refine St.to [] [] rfl rfl ?_ ?_ <;> (repeat' (first | exact tA | refine t1 ?_ | exact tB | refine t2 ?_ ?_ | refine t3 ?_ | refine t4 ?_ ?_ | refine .ofEq ?_ | refine OB.To.cut rfl rfl ?_ ?_ ?_ ?_ | refine OB.To.box rfl rfl ?_ | refine ⟨⟨_, rfl, ?_⟩, ?_⟩ | refine ⟨?_, ?_⟩ | fail))
  rintro ⟨i, j⟩ ⟨g1, g2, g3, g4, g5⟩
  try dsimp only at g1 g2 g3 g4 g5
  try dsimp only
  by_cases hij : i < j
  case pos =>
    obtain ⟨y, hy⟩ : ∃ y, l[(i + j) / 2]? = some y := ⟨_, List.getElem?_eq_getElem (by omega)⟩
    have hc := cmpA_T y x (hr y (List.mem_of_getElem? hy)) hxr
    have hcy : cmpA y x = x.prio - y.prio := rfl
    by_cases hlt : cmpA y x < 0
    · have g4' : ∀ k z, a + 1 ≤ k → k < (i + j) / 2 + 1 → l[k]? = some z → cmpA z x < 0 := fun k z k1 k2 hz => by
        have h3 := ord_at ho k1 (show k ≤ (i + j) / 2 by omega) (by omega) hz hy
        unfold cmpA at hlt ⊢
        omega
      generalize cmpA y x = o at *
      repeat' (first | (apply X.loE; (· exact aR); (· first | (exact .eff (.loadO rfl rfl (readAl (i := (i + j) / 2) (by omega) hy))) | (exact .eff (.loadO rfl rfl (readAl (i := a) (by omega) hx))) | (exact .eff (.toU rfl rfl rfl (by omega) (by omega))) | (exact .eff (.toI rfl rfl rfl (by omega) (by omega))) | (exact .eff (.half rfl rfl)) | exact .callL rfl rfl rfl (hc) rfl | exact bl (hc))) | refine X.loc ?_ | refine nx ?_ | refine X.cdT ?_ | refine X.cdF ?_ | (refine WP.condBit rfl ?_ ?_) | (refine WP.cond rfl ?_ ?_ <;> intro hcond) | (apply X.gsE; (· exact aR); (· exact aV); (· exact aW); (· intro hc; first | (exact .eff (.loadO rfl rfl (readAl (i := (i + j) / 2) (by omega) hy))) | (exact .eff (.loadO rfl rfl (readAl (i := a) (by omega) hx))) | (exact .eff (.toU rfl rfl rfl (by omega) (by omega))) | (exact .eff (.toI rfl rfl rfl (by omega) (by omega))) | (exact .eff (.half rfl rfl)) | exact .callG rfl rfl rfl (hc) rfl | exact bg (hc)); (· exact aR)) | refine rb ?_ | refine nd ?_ | refine dk ?_ | fail)
      refine ⟨((i + j) / 2 + 1, j), ⟨by dsimp only; omega, by dsimp only; omega, g3, g4', g5⟩, by dsimp only; omega, ?_⟩
      try dsimp only
      rw [show (((i + j) / 2 + 1 : Nat) : Int) = ((i : Int) + (j : Int)) / 2 + 1 by omega]
      refine St.to [] [] rfl rfl ?_ ?_ <;> (repeat' (first | exact tA | refine t1 ?_ | exact tB | refine t2 ?_ ?_ | refine t3 ?_ | refine t4 ?_ ?_ | refine .ofEq ?_ | refine OB.To.cut rfl rfl ?_ ?_ ?_ ?_ | refine OB.To.box rfl rfl ?_ | refine ⟨⟨_, rfl, ?_⟩, ?_⟩ | refine ⟨?_, ?_⟩ | fail))
    · have g5' : ∀ k z, (i + j) / 2 ≤ k → k < b → l[k]? = some z → ¬ cmpA z x < 0 := fun k z k1 k2 hz => by
        have h3 := ord_at ho (show a + 1 ≤ (i + j) / 2 by omega) k1 k2 hy hz
        unfold cmpA at hlt ⊢
        omega
      generalize cmpA y x = o at *
      repeat' (first | (apply X.loE; (· exact aR); (· first | (exact .eff (.loadO rfl rfl (readAl (i := (i + j) / 2) (by omega) hy))) | (exact .eff (.loadO rfl rfl (readAl (i := a) (by omega) hx))) | (exact .eff (.toU rfl rfl rfl (by omega) (by omega))) | (exact .eff (.toI rfl rfl rfl (by omega) (by omega))) | (exact .eff (.half rfl rfl)) | exact .callL rfl rfl rfl (hc) rfl | exact bl (hc))) | refine X.loc ?_ | refine nx ?_ | refine X.cdT ?_ | refine X.cdF ?_ | (refine WP.condBit rfl ?_ ?_) | (refine WP.cond rfl ?_ ?_ <;> intro hcond) | (apply X.gsE; (· exact aR); (· exact aV); (· exact aW); (· intro hc; first | (exact .eff (.loadO rfl rfl (readAl (i := (i + j) / 2) (by omega) hy))) | (exact .eff (.loadO rfl rfl (readAl (i := a) (by omega) hx))) | (exact .eff (.toU rfl rfl rfl (by omega) (by omega))) | (exact .eff (.toI rfl rfl rfl (by omega) (by omega))) | (exact .eff (.half rfl rfl)) | exact .callG rfl rfl rfl (hc) rfl | exact bg (hc)); (· exact aR)) | refine rb ?_ | refine nd ?_ | refine dk ?_ | fail)
      refine ⟨(i, (i + j) / 2), ⟨g1, by dsimp only; omega, by dsimp only; omega, g4, g5'⟩, by dsimp only; omega, ?_⟩
      try dsimp only
      rw [show (((i + j) / 2 : Nat) : Int) = ((i : Int) + (j : Int)) / 2 by omega]
      refine St.to [] [] rfl rfl ?_ ?_ <;> (repeat' (first | exact tA | refine t1 ?_ | exact tB | refine t2 ?_ ?_ | refine t3 ?_ | refine t4 ?_ ?_ | refine .ofEq ?_ | refine OB.To.cut rfl rfl ?_ ?_ ?_ ?_ | refine OB.To.box rfl rfl ?_ | refine ⟨⟨_, rfl, ?_⟩, ?_⟩ | refine ⟨?_, ?_⟩ | fail))
  case neg =>
    obtain rfl : i = j := by omega
    have hm := hmg i g1 g3 hb ho g4 g5
    have hml := mvF_len l a
    repeat' (first | refine X.loc ?_ | refine nx ?_ | refine X.cdT ?_ | refine X.cdF ?_ | (refine WP.condBit rfl ?_ ?_) | (refine WP.cond rfl ?_ ?_ <;> intro hcond) | refine rb ?_ | refine nd ?_ | refine dk ?_ | fail)
    refine WP.loop (ι := Nat) (fun t => ⟨[(0, .osl 1000), (10, .fv (.int .i64 i)), (13, .fv (.int .i64 ((a : Int) + (t : Int))))], [(1000, .row 41 9 (mvF l a t).length (((mvF l a t).flatMap encAr).map .fv))]⟩) (fun t => t ≤ i - (a + 1)) (fun t => i - (a + 1) - t) 0 (by omega) ?_ ?_
    · try dsimp only
      rw [show mvF l a 0 = l from rfl, show (a : Int) + ((0 : Nat) : Int) = (a : Int) by omega]
      refine St.to [] [] rfl rfl ?_ ?_ <;> (repeat' (first | exact tA | refine t1 ?_ | exact tB | refine t2 ?_ ?_ | refine t3 ?_ | refine t4 ?_ ?_ | refine .ofEq ?_ | refine OB.To.cut rfl rfl ?_ ?_ ?_ ?_ | refine OB.To.box rfl rfl ?_ | refine ⟨⟨_, rfl, ?_⟩, ?_⟩ | refine ⟨?_, ?_⟩ | fail))
    rintro t ht
    try dsimp only
    by_cases htl : t < i - (a + 1)
    case neg =>
      obtain rfl : t = i - (a + 1) := by omega
      rw [hm]
      generalize mrgL l a b = R at *
      rw [show ((i - (a + 1) : Nat) : Int) = (i : Int) - ((a : Int) + 1) by omega]
      repeat' (first | refine X.loc ?_ | refine nx ?_ | refine X.cdT ?_ | refine X.cdF ?_ | (refine WP.condBit rfl ?_ ?_) | (refine WP.cond rfl ?_ ?_ <;> intro hcond) | refine rb ?_ | refine nd ?_ | refine dk ?_ | fail)
      refine .ofL (s' := ⟨[], [(1000, .row 41 9 R.length ((R.flatMap encAr).map .fv))]⟩) (by first | exact .inl rfl | exact .inr rfl) ?_ rfl rfl (by repeat' (first | exact trivial | refine ⟨⟨_, rfl, fun _ _ _ _ h => h⟩, ?_⟩))
      refine St.to [] [] rfl rfl ?_ ?_ <;> (repeat' (first | exact tA | refine t1 ?_ | exact tB | refine t2 ?_ ?_ | refine t3 ?_ | refine t4 ?_ ?_ | refine .ofEq ?_ | refine OB.To.cut rfl rfl ?_ ?_ ?_ ?_ | refine OB.To.box rfl rfl ?_ | refine ⟨⟨_, rfl, ?_⟩, ?_⟩ | refine ⟨?_, ?_⟩ | fail))
    case pos =>
      have h1 := hml t
      have hs : mvF l a (t + 1) = swp (mvF l a t) (a + t) (a + t + 1) := rfl
      generalize mvF l a t = R at *
      obtain ⟨u, hu⟩ : ∃ u, R[a + t]? = some u := ⟨_, List.getElem?_eq_getElem (by omega)⟩
      obtain ⟨v, hv⟩ : ∃ v, R[a + t + 1]? = some v := ⟨_, List.getElem?_eq_getElem (by omega)⟩
      rw [swp, hu, hv] at hs
      try dsimp only at hs
      have s1 := setAl (l := R) (i := a + t) (off := ((a : Int) + (t : Int)).toNat * 9) (x := v) (by omega) (by omega)
      have s2 := setAl (l := R.set (a + t) v) (i := a + t + 1) (off := ((a : Int) + (t : Int) + 1).toNat * 9) (x := u) (by omega) (by rw [List.length_set]; omega)
      repeat' (first | (apply X.loE; (· exact aR); (· first | (exact .eff (.loadO rfl rfl (readAl (i := a + t) (by omega) hu))) | (exact .eff (.loadO rfl rfl (readAl (i := a + t + 1) (by omega) hv))))) | refine X.loc ?_ | (apply X.stRE; (· exact aS); (· exact s1); (· exact aE)) | (apply X.stRE; (· exact aS); (· exact s2); (· exact aE)) | refine nx ?_ | refine X.cdT ?_ | refine X.cdF ?_ | (refine WP.condBit rfl ?_ ?_) | (refine WP.cond rfl ?_ ?_ <;> intro hcond) | (apply X.gsE; (· exact aR); (· exact aV); (· exact aW); (· intro hc; first | (exact .eff (.loadO rfl rfl (readAl (i := a + t) (by omega) hu))) | (exact .eff (.loadO rfl rfl (readAl (i := a + t + 1) (by omega) hv)))); (· exact aR)) | refine rb ?_ | refine nd ?_ | refine dk ?_ | fail)
      refine ⟨t + 1, by omega, by omega, ?_⟩
      try dsimp only
      rw [hs, show (a : Int) + ((t + 1 : Nat) : Int) = (a : Int) + (t : Int) + 1 by omega]
      refine St.to [] [] rfl rfl ?_ ?_ <;> (repeat' (first | exact tA | refine t1 ?_ | exact tB | refine t2 ?_ ?_ | refine t3 ?_ | refine t4 ?_ ?_ | refine .ofEq ?_ | refine OB.To.cut rfl rfl ?_ ?_ ?_ ?_ | refine OB.To.box rfl rfl ?_ | refine ⟨⟨_, rfl, ?_⟩, ?_⟩ | refine ⟨?_, ?_⟩ | fail))
      all_goals first | omega | (simp; done)
end Go.Proofs.YtmidechdlbcepaaGreat.AS

namespace Go.Proofs.YtmidechdlbcepaaGreat.AS
open Go.RowKit
set_option maxRecDepth 100000

theorem mrg_back {l : List Ar} {a m i : Nat} {y : Ar} (hy : l[m]? = some y) (h1 : a ≤ i) (h2 : i ≤ m) (ho : ((l.take m).drop a).Pairwise fun x y => y.prio ≤ x.prio) (p1 : ∀ k x, a ≤ k → k < i → l[k]? = some x → ¬ cmpA y x < 0) (p2 : ∀ k x, i ≤ k → k < m → l[k]? = some x → cmpA y x < 0) : mvB l m (m - i) = mrgL l a (m + 1) := by
  have hlt := (List.getElem?_eq_some_iff.1 hy).1
  have e1 := split3 (l := l) (a := a) (b := i) (c := m) h1 h2
  have hP : (l.take a).length = a := by rw [List.length_take]; omega
  have hA : ((l.take m).drop a).length = m - a := by rw [List.length_drop, List.length_take]; omega
  have hA2 : ((l.take m).drop i).length = m - i := by rw [List.length_drop, List.length_take]; omega
  have e3 : (l.take (m + 1)).drop a = (l.take m).drop a ++ [y] := by
    rw [List.take_add_one, hy, List.drop_append_of_le_length (by rw [List.length_take]; omega)]
    rfl
  have e2 : l = l.take a ++ (l.take m).drop a ++ y :: l.drop (m + 1) := by
    have h3 : l.take m = l.take a ++ (l.take m).drop a := by
      have := List.take_append_drop a (l.take m)
      rw [List.take_take, Nat.min_eq_left (by omega)] at this
      exact this.symm
    have h4 := List.take_append_drop m l
    rw [List.drop_eq_getElem_cons hlt, (List.getElem?_eq_some_iff.1 hy).2] at h4
    rw [← h3]
    exact h4.symm
  have := mvB_sort (P := l.take a) (A1 := (l.take i).drop a) (A2 := (l.take m).drop i) (Q := l.drop (m + 1)) (y := y) (by rw [← e1]; exact ho) (fun x hx => by
    obtain ⟨k, k1, k2, k3⟩ := seg_mem hx
    exact p1 k x k1 k2 k3) (fun x hx => by
    obtain ⟨k, k1, k2, k3⟩ := seg_mem hx
    exact p2 k x k1 k2 k3)
  rw [← e1, ← e2, hP, hA, hA2, show a + (m - a) = m by omega] at this
  rw [this, mrgL, e3]
set_option maxHeartbeats 8000000 in
theorem symMerge2_T (l : List Ar) (a m : Nat) (hr : ∀ x ∈ l, ArR x) (ha : a + 1 < m) (hb : m + 1 ≤ l.length) (hl : l.length ≤ 40) (ho : ((l.take m).drop a).Pairwise fun x y => y.prio ≤ x.prio) : FunO Tryz.prog 144 [.osl 1000, .fv (.int .i64 a), .fv (.int .i64 m), .fv (.int .i64 (m + 1 : Nat)), .fn 78 []] [(1000, arRw l)] (.tup []) [(1000, arRw (mrgL l a (m + 1)))] := by
  refine FunO.bodyL tbl_ok Tryz.func144 rfl (by kernel_rfl) rfl rfl rfl ?_
  unfold arRw
  rw [show ((m + 1 : Nat) : Int) = (m : Int) + 1 by omega]
  obtain ⟨y, hy⟩ : ∃ y, l[m]? = some y := ⟨_, List.getElem?_eq_getElem (by omega)⟩
  have hyr := hr y (List.mem_of_getElem? hy)
  have hmg := fun i => @mrg_back l a m i y hy
  repeat' (first | refine X.loc ?_ | refine nx ?_ | refine X.cdT ?_ | refine X.cdF ?_ | (refine WP.condBit rfl ?_ ?_) | (refine WP.cond rfl ?_ ?_ <;> intro hcond) | refine rb ?_ | refine nd ?_ | refine dk ?_ | fail)
  refine WP.loop (ι := Nat × Nat) (fun q => ⟨[(0, .osl 1000), (1, .fv (.int .i64 a)), (2, .fv (.int .i64 m)), (3, .fv (.int .i64 ((m : Int) + 1))), (4, .fn 78 []), (14, .fv (.int .i64 q.1)), (15, .fv (.int .i64 q.2))], [(1000, .row 41 9 l.length ((l.flatMap encAr).map .fv))]⟩) (fun q => a ≤ q.1 ∧ q.1 ≤ q.2 ∧ q.2 ≤ m ∧ (∀ k x, a ≤ k → k < q.1 → l[k]? = some x → ¬ cmpA y x < 0) ∧ (∀ k x, q.2 ≤ k → k < m → l[k]? = some x → cmpA y x < 0)) (fun q => q.2 - q.1) (a, m) ⟨by dsimp only; omega, by dsimp only; omega, by dsimp only; omega, fun k y h1 h2 => by dsimp only at h2; omega, fun k y h1 h2 => by dsimp only at h1; omega⟩ ?_ ?_
  · try dsimp only
    refine St.to [] [] rfl rfl ?_ ?_ <;> (repeat' (first | exact tA | refine t1 ?_ | exact tB | refine t2 ?_ ?_ | refine t3 ?_ | refine t4 ?_ ?_ | refine .ofEq ?_ | refine OB.To.cut rfl rfl ?_ ?_ ?_ ?_ | refine OB.To.box rfl rfl ?_ | refine ⟨⟨_, rfl, ?_⟩, ?_⟩ | refine ⟨?_, ?_⟩ | fail))
  rintro ⟨i, j⟩ ⟨g1, g2, g3, g4, g5⟩
  try dsimp only at g1 g2 g3 g4 g5
  try dsimp only
  by_cases hij : i < j
  case pos =>
    obtain ⟨x, hx⟩ : ∃ x, l[(i + j) / 2]? = some x := ⟨_, List.getElem?_eq_getElem (by omega)⟩
    have hc := cmpA_T y x hyr (hr x (List.mem_of_getElem? hx))
    by_cases hlt : cmpA y x < 0
    · have g5' : ∀ k z, (i + j) / 2 ≤ k → k < m → l[k]? = some z → cmpA y z < 0 := fun k z k1 k2 hz => by
        have h3 := ord_at ho (show a ≤ (i + j) / 2 by omega) k1 k2 hx hz
        unfold cmpA at hlt ⊢
        omega
      generalize cmpA y x = o at *
      repeat' (first | (apply X.loE; (· exact aR); (· first | (exact .eff (.loadO rfl rfl (readAl (i := (i + j) / 2) (by omega) hx))) | (exact .eff (.loadO rfl rfl (readAl (i := m) (by omega) hy))) | (exact .eff (.toU rfl rfl rfl (by omega) (by omega))) | (exact .eff (.toI rfl rfl rfl (by omega) (by omega))) | (exact .eff (.half rfl rfl)) | exact .callL rfl rfl rfl (hc) rfl | exact bl (hc))) | refine X.loc ?_ | refine nx ?_ | refine X.cdT ?_ | refine X.cdF ?_ | (refine WP.condBit rfl ?_ ?_) | (refine WP.cond rfl ?_ ?_ <;> intro hcond) | (apply X.gsE; (· exact aR); (· exact aV); (· exact aW); (· intro hc; first | (exact .eff (.loadO rfl rfl (readAl (i := (i + j) / 2) (by omega) hx))) | (exact .eff (.loadO rfl rfl (readAl (i := m) (by omega) hy))) | (exact .eff (.toU rfl rfl rfl (by omega) (by omega))) | (exact .eff (.toI rfl rfl rfl (by omega) (by omega))) | (exact .eff (.half rfl rfl)) | exact .callG rfl rfl rfl (hc) rfl | exact bg (hc)); (· exact aR)) | refine rb ?_ | refine nd ?_ | refine dk ?_ | fail)
      all_goals try (exfalso; simp at hcond; omega)
      refine ⟨(i, (i + j) / 2), ⟨g1, by dsimp only; omega, by dsimp only; omega, g4, g5'⟩, by dsimp only; omega, ?_⟩
      try dsimp only
      rw [show (((i + j) / 2 : Nat) : Int) = ((i : Int) + (j : Int)) / 2 by omega]
      refine St.to [] [] rfl rfl ?_ ?_ <;> (repeat' (first | exact tA | refine t1 ?_ | exact tB | refine t2 ?_ ?_ | refine t3 ?_ | refine t4 ?_ ?_ | refine .ofEq ?_ | refine OB.To.cut rfl rfl ?_ ?_ ?_ ?_ | refine OB.To.box rfl rfl ?_ | refine ⟨⟨_, rfl, ?_⟩, ?_⟩ | refine ⟨?_, ?_⟩ | fail))
    · have g4' : ∀ k z, a ≤ k → k < (i + j) / 2 + 1 → l[k]? = some z → ¬ cmpA y z < 0 := fun k z k1 k2 hz => by
        have h3 := ord_at ho k1 (show k ≤ (i + j) / 2 by omega) (by omega) hz hx
        unfold cmpA at hlt ⊢
        omega
      generalize cmpA y x = o at *
      repeat' (first | (apply X.loE; (· exact aR); (· first | (exact .eff (.loadO rfl rfl (readAl (i := (i + j) / 2) (by omega) hx))) | (exact .eff (.loadO rfl rfl (readAl (i := m) (by omega) hy))) | (exact .eff (.toU rfl rfl rfl (by omega) (by omega))) | (exact .eff (.toI rfl rfl rfl (by omega) (by omega))) | (exact .eff (.half rfl rfl)) | exact .callL rfl rfl rfl (hc) rfl | exact bl (hc))) | refine X.loc ?_ | refine nx ?_ | refine X.cdT ?_ | refine X.cdF ?_ | (refine WP.condBit rfl ?_ ?_) | (refine WP.cond rfl ?_ ?_ <;> intro hcond) | (apply X.gsE; (· exact aR); (· exact aV); (· exact aW); (· intro hc; first | (exact .eff (.loadO rfl rfl (readAl (i := (i + j) / 2) (by omega) hx))) | (exact .eff (.loadO rfl rfl (readAl (i := m) (by omega) hy))) | (exact .eff (.toU rfl rfl rfl (by omega) (by omega))) | (exact .eff (.toI rfl rfl rfl (by omega) (by omega))) | (exact .eff (.half rfl rfl)) | exact .callG rfl rfl rfl (hc) rfl | exact bg (hc)); (· exact aR)) | refine rb ?_ | refine nd ?_ | refine dk ?_ | fail)
      all_goals try (exfalso; simp at hcond; omega)
      refine ⟨((i + j) / 2 + 1, j), ⟨by dsimp only; omega, by dsimp only; omega, g3, g4', g5⟩, by dsimp only; omega, ?_⟩
      try dsimp only
      rw [show (((i + j) / 2 + 1 : Nat) : Int) = ((i : Int) + (j : Int)) / 2 + 1 by omega]
      refine St.to [] [] rfl rfl ?_ ?_ <;> (repeat' (first | exact tA | refine t1 ?_ | exact tB | refine t2 ?_ ?_ | refine t3 ?_ | refine t4 ?_ ?_ | refine .ofEq ?_ | refine OB.To.cut rfl rfl ?_ ?_ ?_ ?_ | refine OB.To.box rfl rfl ?_ | refine ⟨⟨_, rfl, ?_⟩, ?_⟩ | refine ⟨?_, ?_⟩ | fail))
  case neg =>
    obtain rfl : i = j := by omega
    have hm := hmg i g1 g3 ho g4 g5
    have hml := mvB_len l m
    repeat' (first | refine X.loc ?_ | refine nx ?_ | refine X.cdT ?_ | refine X.cdF ?_ | (refine WP.condBit rfl ?_ ?_) | (refine WP.cond rfl ?_ ?_ <;> intro hcond) | refine rb ?_ | refine nd ?_ | refine dk ?_ | fail)
    refine WP.loop (ι := Nat) (fun t => ⟨[(0, .osl 1000), (14, .fv (.int .i64 i)), (17, .fv (.int .i64 ((m : Int) - (t : Int))))], [(1000, .row 41 9 (mvB l m t).length (((mvB l m t).flatMap encAr).map .fv))]⟩) (fun t => t ≤ m - i) (fun t => m - i - t) 0 (by omega) ?_ ?_
    · try dsimp only
      rw [show mvB l m 0 = l from rfl, show (m : Int) - ((0 : Nat) : Int) = (m : Int) by omega]
      refine St.to [] [] rfl rfl ?_ ?_ <;> (repeat' (first | exact tA | refine t1 ?_ | exact tB | refine t2 ?_ ?_ | refine t3 ?_ | refine t4 ?_ ?_ | refine .ofEq ?_ | refine OB.To.cut rfl rfl ?_ ?_ ?_ ?_ | refine OB.To.box rfl rfl ?_ | refine ⟨⟨_, rfl, ?_⟩, ?_⟩ | refine ⟨?_, ?_⟩ | fail))
    rintro t ht
    try dsimp only
    by_cases htl : t < m - i
    case neg =>
      obtain rfl : t = m - i := by omega
      rw [hm]
      generalize mrgL l a (m + 1) = R at *
      rw [show ((m - i : Nat) : Int) = (m : Int) - (i : Int) by omega]
      repeat' (first | refine X.loc ?_ | refine nx ?_ | refine X.cdT ?_ | refine X.cdF ?_ | (refine WP.condBit rfl ?_ ?_) | (refine WP.cond rfl ?_ ?_ <;> intro hcond) | refine rb ?_ | refine nd ?_ | refine dk ?_ | fail)
      refine .ofL (s' := ⟨[], [(1000, .row 41 9 R.length ((R.flatMap encAr).map .fv))]⟩) (by first | exact .inl rfl | exact .inr rfl) ?_ rfl rfl (by repeat' (first | exact trivial | refine ⟨⟨_, rfl, fun _ _ _ _ h => h⟩, ?_⟩))
      refine St.to [] [] rfl rfl ?_ ?_ <;> (repeat' (first | exact tA | refine t1 ?_ | exact tB | refine t2 ?_ ?_ | refine t3 ?_ | refine t4 ?_ ?_ | refine .ofEq ?_ | refine OB.To.cut rfl rfl ?_ ?_ ?_ ?_ | refine OB.To.box rfl rfl ?_ | refine ⟨⟨_, rfl, ?_⟩, ?_⟩ | refine ⟨?_, ?_⟩ | fail))
    case pos =>
      have h1 := hml t
      have hs : mvB l m (t + 1) = swp (mvB l m t) (m - t) (m - t - 1) := rfl
      generalize mvB l m t = R at *
      obtain ⟨u, hu⟩ : ∃ u, R[m - t]? = some u := ⟨_, List.getElem?_eq_getElem (by omega)⟩
      obtain ⟨v, hv⟩ : ∃ v, R[m - t - 1]? = some v := ⟨_, List.getElem?_eq_getElem (by omega)⟩
      rw [swp, hu, hv] at hs
      try dsimp only at hs
      have s1 := setAl (l := R) (i := m - t) (off := ((m : Int) - (t : Int)).toNat * 9) (x := v) (by omega) (by omega)
      have s2 := setAl (l := R.set (m - t) v) (i := m - t - 1) (off := ((m : Int) - (t : Int) - 1).toNat * 9) (x := u) (by omega) (by rw [List.length_set]; omega)
      repeat' (first | (apply X.loE; (· exact aR); (· first | (exact .eff (.loadO rfl rfl (readAl (i := m - t) (by omega) hu))) | (exact .eff (.loadO rfl rfl (readAl (i := m - t - 1) (by omega) hv))))) | refine X.loc ?_ | (apply X.stRE; (· exact aS); (· exact s1); (· exact aE)) | (apply X.stRE; (· exact aS); (· exact s2); (· exact aE)) | refine nx ?_ | refine X.cdT ?_ | refine X.cdF ?_ | (refine WP.condBit rfl ?_ ?_) | (refine WP.cond rfl ?_ ?_ <;> intro hcond) | (apply X.gsE; (· exact aR); (· exact aV); (· exact aW); (· intro hc; first | (exact .eff (.loadO rfl rfl (readAl (i := m - t) (by omega) hu))) | (exact .eff (.loadO rfl rfl (readAl (i := m - t - 1) (by omega) hv)))); (· exact aR)) | refine rb ?_ | refine nd ?_ | refine dk ?_ | fail)
      refine ⟨t + 1, by omega, by omega, ?_⟩
      try dsimp only
      rw [hs, show (m : Int) - ((t + 1 : Nat) : Int) = (m : Int) - (t : Int) - 1 by omega]
      refine St.to [] [] rfl rfl ?_ ?_ <;> (repeat' (first | exact tA | refine t1 ?_ | exact tB | refine t2 ?_ ?_ | refine t3 ?_ | refine t4 ?_ ?_ | refine .ofEq ?_ | refine OB.To.cut rfl rfl ?_ ?_ ?_ ?_ | refine OB.To.box rfl rfl ?_ | refine ⟨⟨_, rfl, ?_⟩, ?_⟩ | refine ⟨?_, ?_⟩ | fail))
      all_goals first | omega | (simp; done)
end Go.Proofs.YtmidechdlbcepaaGreat.AS

namespace Go.Proofs.YtmidechdlbcepaaGreat.AS
open Go.RowKit
set_option maxRecDepth 100000

theorem mrgL_app (P S Q : List Ar) : mrgL (P ++ S ++ Q) P.length (P.length + S.length) = P ++ sortA S ++ Q := by
  have e1 : (P ++ S ++ Q).take P.length = P := by rw [List.append_assoc, List.take_left]
  have e2 : (P ++ S ++ Q).take (P.length + S.length) = P ++ S := by rw [← List.length_append, List.take_left]
  have e3 : (P ++ S ++ Q).drop (P.length + S.length) = Q := by rw [← List.length_append, List.drop_left]
  rw [mrgL, e1, e2, e3, List.drop_left]
theorem part3 (l : List Ar) {a b : Nat} (h1 : a ≤ b) (h2 : b ≤ l.length) : l = l.take a ++ (l.take b).drop a ++ l.drop b := by
  have h3 : l.take b = l.take a ++ (l.take b).drop a := by
    have := List.take_append_drop a (l.take b)
    rw [List.take_take, Nat.min_eq_left h1] at this
    exact this.symm
  have h4 := List.take_append_drop b l
  rw [h3] at h4
  exact h4.symm
theorem seg_len (l : List Ar) {a b : Nat} (h1 : a ≤ b) (h2 : b ≤ l.length) : ((l.take b).drop a).length = b - a := by rw [List.length_drop, List.length_take]; omega
theorem sym_split {P A1 A2 B1 B2 Q : List Ar} (h1 : ∀ x ∈ A1, ∀ y ∈ B2, y.prio ≤ x.prio) (h2 : ∀ x ∈ A1, ∀ y ∈ A2, y.prio ≤ x.prio) (h3 : ∀ x ∈ B1, ∀ y ∈ A2, y.prio < x.prio) (h4 : ∀ x ∈ B1, ∀ y ∈ B2, y.prio ≤ x.prio) {a d b : Nat} (ha : a = P.length) (hd : d = a + (A1.length + B1.length)) (hb : b = d + (A2.length + B2.length)) :
    mrgL (mrgL (P ++ A1 ++ B1 ++ A2 ++ B2 ++ Q) a d) d b = mrgL (P ++ A1 ++ A2 ++ B1 ++ B2 ++ Q) a b := by
  subst ha hd hb
  have hl : ∀ S : List Ar, (sortA S).length = S.length := fun S => (List.mergeSort_perm S geA).length_eq
  have s1 := mrgL_app P (A1 ++ B1) (A2 ++ B2 ++ Q)
  have s2 := mrgL_app (P ++ sortA (A1 ++ B1)) (A2 ++ B2) Q
  have s3 := mrgL_app P (A1 ++ A2 ++ (B1 ++ B2)) Q
  rw [← sortA_split h1 h2 h3 h4] at s3
  have l3 : P.length + (A1 ++ A2 ++ (B1 ++ B2)).length = P.length + (A1.length + B1.length) + (A2.length + B2.length) := by
    simp only [List.length_append]
    omega
  have l2 : (P ++ sortA (A1 ++ B1)).length = P.length + (A1.length + B1.length) := by rw [List.length_append, hl, List.length_append]
  rw [l3] at s3
  rw [l2] at s2
  simp only [List.length_append] at s1 s2
  simp only [List.append_assoc] at s1 s2 s3 ⊢
  rw [s1, s2, s3]
end Go.Proofs.YtmidechdlbcepaaGreat.AS

namespace Go.Proofs.YtmidechdlbcepaaGreat.AS
open Go.RowKit
set_option maxRecDepth 100000

def turned (l : List Ar) (s m e : Nat) : List Ar := if s < m ∧ m < e then rotL l m (m - s) (e - m) else l
theorem parts5 (l : List Ar) {a s m e b : Nat} (h1 : a ≤ s) (h2 : s ≤ m) (h3 : m ≤ e) (h4 : e ≤ b) (h5 : b ≤ l.length) :
    l = l.take a ++ (l.take s).drop a ++ (l.take m).drop s ++ (l.take e).drop m ++ (l.take b).drop e ++ l.drop b := by
  have p1 := part3 l (a := a) (b := b) (by omega) h5
  have p2 := split3 (l := l) (a := a) (b := s) (c := b) h1 (by omega)
  have p3 := split3 (l := l) (a := s) (b := m) (c := b) h2 (by omega)
  have p4 := split3 (l := l) (a := m) (b := e) (c := b) h3 h4
  rw [p2, p3, p4] at p1
  simpa only [List.append_assoc] using p1
theorem turned_is (l : List Ar) {a s m e b : Nat} (h1 : a ≤ s) (h2 : s ≤ m) (h3 : m ≤ e) (h4 : e ≤ b) (h5 : b ≤ l.length) :
    turned l s m e = l.take a ++ (l.take s).drop a ++ (l.take e).drop m ++ (l.take m).drop s ++ (l.take b).drop e ++ l.drop b := by
  have hp := parts5 l h1 h2 h3 h4 h5
  have hP : (l.take a).length = a := by rw [List.length_take]; omega
  have l1 := seg_len l h1 (show s ≤ l.length by omega)
  have l2 := seg_len l h2 (show m ≤ l.length by omega)
  have l3 := seg_len l h3 (show e ≤ l.length by omega)
  generalize l.take a = P at *
  generalize (l.take s).drop a = A1 at *
  generalize (l.take m).drop s = A2 at *
  generalize (l.take e).drop m = B1 at *
  generalize (l.take b).drop e = B2 at *
  generalize l.drop b = Q at *
  unfold turned
  by_cases h : s < m ∧ m < e
  · rw [if_pos h]
    have hr := rotL_is _ (P ++ A1) A2 B1 (B2 ++ Q) rfl (by omega) (by omega)
    rw [List.length_append, l2, l3, show P.length + A1.length + (m - s) = m by omega] at hr
    rw [hp]
    simp only [List.append_assoc] at hr ⊢
    exact hr
  · rw [if_neg h]
    have : A2 = [] ∨ B1 = [] := by
      rcases Nat.lt_or_ge s m with h6 | h6
      · right
        exact List.eq_nil_of_length_eq_zero (by omega)
      · left
        exact List.eq_nil_of_length_eq_zero (by omega)
    rw [hp]
    rcases this with rfl | rfl <;> simp
theorem sym_end {l : List Ar} {a s m e b d : Nat} (h1 : a ≤ s) (h2 : s ≤ m) (h3 : m ≤ e) (h4 : e ≤ b) (h5 : b ≤ l.length) (hd : d + m = s + e) (oA : ((l.take m).drop a).Pairwise fun x y => y.prio ≤ x.prio) (oB : ((l.take b).drop m).Pairwise fun x y => y.prio ≤ x.prio)
    (c1 : s = a ∨ e = b ∨ ∃ x y, l[s - 1]? = some x ∧ l[e]? = some y ∧ ¬ cmpA y x < 0) (c2 : s = m ∨ e = m ∨ ∃ x y, l[s]? = some x ∧ l[e - 1]? = some y ∧ cmpA y x < 0) :
    mrgL (mrgL (turned l s m e) a d) d b = mrgL l a b := by
  have hp := parts5 l h1 h2 h3 h4 h5
  have ht := turned_is l h1 h2 h3 h4 h5
  have hP : (l.take a).length = a := by rw [List.length_take]; omega
  have l1 := seg_len l h1 (show s ≤ l.length by omega)
  have l2 := seg_len l h2 (show m ≤ l.length by omega)
  have l3 := seg_len l h3 (show e ≤ l.length by omega)
  have l4 := seg_len l h4 h5
  have hs := sym_split (P := l.take a) (A1 := (l.take s).drop a) (A2 := (l.take m).drop s) (B1 := (l.take e).drop m) (B2 := (l.take b).drop e) (Q := l.drop b) (a := a) (d := d) (b := b)
    (fun x hx y hy => by
      obtain ⟨i, i1, i2, i3⟩ := seg_mem hx
      obtain ⟨j, j1, j2, j3⟩ := seg_mem hy
      rcases c1 with c | c | ⟨u, v, hu, hv, huv⟩
      · omega
      · omega
      · have g1 := ord_at oA i1 (show i ≤ s - 1 by omega) (by omega) i3 hu
        have g2 := ord_at oB (show m ≤ e by omega) j1 j2 hv j3
        unfold cmpA at huv
        omega)
    (fun x hx y hy => by
      obtain ⟨i, i1, i2, i3⟩ := seg_mem hx
      obtain ⟨j, j1, j2, j3⟩ := seg_mem hy
      exact ord_at oA i1 (by omega) j2 i3 j3)
    (fun x hx y hy => by
      obtain ⟨i, i1, i2, i3⟩ := seg_mem hx
      obtain ⟨j, j1, j2, j3⟩ := seg_mem hy
      rcases c2 with c | c | ⟨u, v, hu, hv, huv⟩
      · omega
      · omega
      · have g1 := ord_at oB i1 (show i ≤ e - 1 by omega) (by omega) i3 hv
        have g2 := ord_at oA h1 j1 j2 hu j3
        unfold cmpA at huv
        omega)
    (fun x hx y hy => by
      obtain ⟨i, i1, i2, i3⟩ := seg_mem hx
      obtain ⟨j, j1, j2, j3⟩ := seg_mem hy
      exact ord_at oB i1 (by omega) j2 i3 j3) hP.symm (by omega) (by omega)
  rw [← hp, ← ht] at hs
  exact hs
end Go.Proofs.YtmidechdlbcepaaGreat.AS

namespace Go.Proofs.YtmidechdlbcepaaGreat.AS
open Go.RowKit
set_option maxRecDepth 100000

theorem seg_app (P S Q : List Ar) {a b : Nat} (ha : a = P.length) (hb : b = a + S.length) : ((P ++ S ++ Q).take b).drop a = S := by
  subst ha hb
  rw [← List.length_append, List.take_left, List.drop_left]
theorem mrgL_id {l : List Ar} {a b : Nat} (h1 : a ≤ b) (h2 : b ≤ l.length) (h : ((l.take b).drop a).Pairwise fun x y => y.prio ≤ x.prio) : mrgL l a b = l := by
  rw [mrgL, sortA_id h]
  exact (part3 l h1 h2).symm
theorem mrgL_len {l : List Ar} {a b : Nat} (h1 : a ≤ b) (h2 : b ≤ l.length) : (mrgL l a b).length = l.length := by
  have hl := (List.mergeSort_perm ((l.take b).drop a) geA).length_eq
  have h3 := seg_len l h1 h2
  unfold mrgL sortA
  simp only [List.length_append, List.length_take, List.length_drop] at *
  omega
theorem mrgL_mem {l : List Ar} {a b : Nat} {x : Ar} (h : x ∈ mrgL l a b) : x ∈ l := by
  unfold mrgL at h
  rcases List.mem_append.1 h with h | h
  · rcases List.mem_append.1 h with h | h
    · exact List.mem_of_mem_take h
    · exact List.mem_of_mem_take (List.mem_of_mem_drop ((sortA_stab _).mem.1 h))
  · exact List.mem_of_mem_drop h
theorem mrgL_seg {l : List Ar} {a d p q : Nat} (h1 : a ≤ d) (h2 : d ≤ l.length) (h3 : d ≤ p) (h4 : p ≤ q) (h5 : q ≤ l.length) : ((mrgL l a d).take q).drop p = (l.take q).drop p := by
  have hlen := mrgL_len h1 h2
  apply List.ext_getElem?
  intro i
  rw [List.getElem?_drop, List.getElem?_drop]
  by_cases hi : p + i < q
  · rw [List.getElem?_take_of_lt hi, List.getElem?_take_of_lt hi]
    have hA : (l.take a ++ sortA ((l.take d).drop a)).length = d := by
      have hl := (List.mergeSort_perm ((l.take d).drop a) geA).length_eq
      have h3 := seg_len l h1 h2
      unfold sortA
      rw [List.length_append, hl, h3, List.length_take]
      omega
    rw [mrgL, List.getElem?_append_right (by omega), hA, List.getElem?_drop, show d + (p + i - d) = p + i by omega]
  · rw [List.getElem?_eq_none (by rw [List.length_take]; omega), List.getElem?_eq_none (by rw [List.length_take]; omega)]
theorem turned_seg (l : List Ar) {a s m e b d : Nat} (h1 : a ≤ s) (h2 : s ≤ m) (h3 : m ≤ e) (h4 : e ≤ b) (h5 : b ≤ l.length) (hd : d + m = s + e) :
    (turned l s m e).length = l.length ∧ ((turned l s m e).take s).drop a = (l.take s).drop a ∧ ((turned l s m e).take d).drop s = (l.take e).drop m ∧ ((turned l s m e).take e).drop d = (l.take m).drop s ∧ ((turned l s m e).take b).drop e = (l.take b).drop e ∧ ∀ x, x ∈ turned l s m e → x ∈ l := by
  have hp := parts5 l h1 h2 h3 h4 h5
  have ht := turned_is l h1 h2 h3 h4 h5
  have hP : (l.take a).length = a := by rw [List.length_take]; omega
  have l1 := seg_len l h1 (show s ≤ l.length by omega)
  have l2 := seg_len l h2 (show m ≤ l.length by omega)
  have l3 := seg_len l h3 (show e ≤ l.length by omega)
  have l4 := seg_len l h4 h5
  have l5 : (l.drop b).length = l.length - b := List.length_drop
  generalize l.take a = P at *
  generalize (l.take s).drop a = A1 at *
  generalize (l.take m).drop s = A2 at *
  generalize (l.take e).drop m = B1 at *
  generalize (l.take b).drop e = B2 at *
  generalize l.drop b = Q at *
  rw [ht]
  refine ⟨?_, ?_, ?_, ?_, ?_, fun x hx => ?_⟩
  · rw [hp]; simp only [List.length_append]; omega
  · have := seg_app P A1 (B1 ++ A2 ++ B2 ++ Q) (a := a) (b := s) hP.symm (by omega)
    simpa only [List.append_assoc] using this
  · have := seg_app (P ++ A1) B1 (A2 ++ B2 ++ Q) (a := s) (b := d) (by rw [List.length_append]; omega) (by omega)
    simpa only [List.append_assoc] using this
  · have := seg_app (P ++ A1 ++ B1) A2 (B2 ++ Q) (a := d) (b := e) (by simp only [List.length_append]; omega) (by omega)
    simpa only [List.append_assoc] using this
  · have := seg_app (P ++ A1 ++ B1 ++ A2) B2 Q (a := e) (b := b) (by simp only [List.length_append]; omega) (by omega)
    simpa only [List.append_assoc] using this
  · rw [hp]
    simp only [List.mem_append] at hx ⊢
    rcases hx with ((((hx | hx) | hx) | hx) | hx) | hx <;> simp [hx]
end Go.Proofs.YtmidechdlbcepaaGreat.AS

namespace Go.Proofs.YtmidechdlbcepaaGreat.AS
open Go.RowKit
set_option maxRecDepth 100000

set_option maxHeartbeats 8000000 in
theorem symMerge_T : ∀ (n : Nat) (l : List Ar) (a m b : Nat), b - a = n → (∀ x ∈ l, ArR x) → a < m → m < b → b ≤ l.length → l.length ≤ 40 → ((l.take m).drop a).Pairwise (fun x y => y.prio ≤ x.prio) → ((l.take b).drop m).Pairwise (fun x y => y.prio ≤ x.prio) →
    FunO Tryz.prog 144 [.osl 1000, .fv (.int .i64 a), .fv (.int .i64 m), .fv (.int .i64 b), .fn 78 []] [(1000, arRw l)] (.tup []) [(1000, arRw (mrgL l a b))] := by
  intro n
  induction n using Nat.strongRecOn with
  | _ n ih =>
    intro l a m b hn hr ham hmb hb hl oA oB
    by_cases k1 : m = a + 1
    · subst k1
      exact symMerge1_T l a b hr hmb hb hl oB
    by_cases k2 : b = m + 1
    · subst k2
      exact symMerge2_T l a m hr (by omega) hb hl oA
    obtain ⟨d, hd⟩ : ∃ d : Nat, d = (a + b) / 2 := ⟨_, rfl⟩
    have hdI : ((a : Int) + (b : Int)) / 2 = (d : Int) := by omega
    refine FunO.bodyL tbl_ok Tryz.func144 rfl (by kernel_rfl) rfl rfl rfl ?_
    unfold arRw
    repeat' (first | with_reducible refine WP.hold 140 ?_ | (apply X.loE; (· exact aR); (· first | (exact .eff (.toU rfl rfl rfl (by omega) (by omega))) | (exact .eff (.toI rfl rfl rfl (by omega) (by omega))) | (exact .eff (.half rfl rfl)))) | refine X.loc ?_ | refine nx ?_ | refine X.cdT ?_ | refine X.cdF ?_ | (refine WP.condBit rfl ?_ ?_) | (refine WP.cond rfl ?_ ?_ <;> intro hcond) | (apply X.gsE; (· exact aR); (· exact aV); (· exact aW); (· intro hc; first | (exact .eff (.toU rfl rfl rfl (by omega) (by omega))) | (exact .eff (.toI rfl rfl rfl (by omega) (by omega))) | (exact .eff (.half rfl rfl))); (· exact aR)) | refine rb ?_ | refine nd ?_ | refine dk ?_ | fail)
    all_goals (try apply Held.mk)
    refine WP.join (ι := Nat × Nat) (fun q => ⟨[(0, .osl 1000), (1, .fv (.int .i64 a)), (2, .fv (.int .i64 m)), (3, .fv (.int .i64 b)), (4, .fn 78 []), (18, .fv (.int .i64 d)), (19, .fv (.int .i64 ((d : Int) + (m : Int)))), (20, .fv (.int .i64 q.1)), (21, .fv (.int .i64 q.2))], [(1000, .row 41 9 l.length ((l.flatMap encAr).map .fv))]⟩) (fun q => (q.1 = a ∧ q.2 = m ∧ m ≤ d) ∨ (q.1 + b = d + m ∧ q.2 = d ∧ d < m)) ?_ ?_
    · by_cases hdm : d < m
      · skip
        repeat' (first | refine X.loc ?_ | refine nx ?_ | refine X.cdT ?_ | refine X.cdF ?_ | (refine WP.condBit rfl ?_ ?_) | (refine WP.cond rfl ?_ ?_ <;> intro hcond) | refine rb ?_ | refine nd ?_ | refine dk ?_ | fail)
        refine ⟨(d + m - b, d), .inr ⟨by dsimp only; omega, rfl, hdm⟩, ?_⟩
        try dsimp only
        rw [show ((d + m - b : Nat) : Int) = (d : Int) + (m : Int) - (b : Int) by omega, hdI]
        refine St.to [] [] rfl rfl ?_ ?_ <;> (repeat' (first | exact tA | refine t1 ?_ | exact tB | refine t2 ?_ ?_ | refine t3 ?_ | refine t4 ?_ ?_ | refine .ofEq ?_ | refine OB.To.cut rfl rfl ?_ ?_ ?_ ?_ | refine OB.To.box rfl rfl ?_ | refine ⟨⟨_, rfl, ?_⟩, ?_⟩ | refine ⟨?_, ?_⟩ | fail))
      · skip
        repeat' (first | refine X.loc ?_ | refine nx ?_ | refine X.cdT ?_ | refine X.cdF ?_ | (refine WP.condBit rfl ?_ ?_) | (refine WP.cond rfl ?_ ?_ <;> intro hcond) | refine rb ?_ | refine nd ?_ | refine dk ?_ | fail)
        refine ⟨(a, m), .inl ⟨rfl, rfl, by omega⟩, ?_⟩
        try dsimp only
        rw [hdI]
        refine St.to [] [] rfl rfl ?_ ?_ <;> (repeat' (first | exact tA | refine t1 ?_ | exact tB | refine t2 ?_ ?_ | refine t3 ?_ | refine t4 ?_ ?_ | refine .ofEq ?_ | refine OB.To.cut rfl rfl ?_ ?_ ?_ ?_ | refine OB.To.box rfl rfl ?_ | refine ⟨⟨_, rfl, ?_⟩, ?_⟩ | refine ⟨?_, ?_⟩ | fail))
    · rintro ⟨lo, hi⟩ hq
      try dsimp only at hq
      try dsimp only
      repeat' (first | refine X.loc ?_ | refine nx ?_ | refine X.cdT ?_ | refine X.cdF ?_ | (refine WP.condBit rfl ?_ ?_) | (refine WP.cond rfl ?_ ?_ <;> intro hcond) | refine rb ?_ | refine nd ?_ | refine dk ?_ | fail)
      refine WP.loop (ι := Nat × Nat) (fun q => ⟨[(0, .osl 1000), (1, .fv (.int .i64 a)), (2, .fv (.int .i64 m)), (3, .fv (.int .i64 b)), (4, .fn 78 []), (18, .fv (.int .i64 d)), (19, .fv (.int .i64 ((d : Int) + (m : Int)))), (22, .fv (.int .i64 ((d : Int) + (m : Int) - 1))), (20, .fv (.int .i64 q.1)), (21, .fv (.int .i64 q.2))], [(1000, .row 41 9 l.length ((l.flatMap encAr).map .fv))]⟩) (fun q => lo ≤ q.1 ∧ q.1 ≤ q.2 ∧ q.2 ≤ hi ∧ (∀ k x y, lo ≤ k → k < q.1 → l[k]? = some x → l[d + m - 1 - k]? = some y → ¬ cmpA y x < 0) ∧ (∀ k x y, q.2 ≤ k → k < hi → l[k]? = some x → l[d + m - 1 - k]? = some y → cmpA y x < 0)) (fun q => q.2 - q.1) (lo, hi) ⟨by dsimp only; omega, by dsimp only; omega, by dsimp only; omega, fun k x y h1 h2 => by dsimp only at h2; omega, fun k x y h1 h2 => by dsimp only at h1; omega⟩ ?_ ?_
      · try dsimp only
        refine St.to [] [] rfl rfl ?_ ?_ <;> (repeat' (first | exact tA | refine t1 ?_ | exact tB | refine t2 ?_ ?_ | refine t3 ?_ | refine t4 ?_ ?_ | refine .ofEq ?_ | refine OB.To.cut rfl rfl ?_ ?_ ?_ ?_ | refine OB.To.box rfl rfl ?_ | refine ⟨⟨_, rfl, ?_⟩, ?_⟩ | refine ⟨?_, ?_⟩ | fail))
      rintro ⟨i, j⟩ ⟨g1, g2, g3, g4, g5⟩
      try dsimp only at g1 g2 g3 g4 g5
      try dsimp only
      by_cases hij : i < j
      case pos =>
        obtain ⟨x, hx⟩ : ∃ x, l[(i + j) / 2]? = some x := ⟨_, List.getElem?_eq_getElem (by omega)⟩
        obtain ⟨y, hy⟩ : ∃ y, l[d + m - 1 - (i + j) / 2]? = some y := ⟨_, List.getElem?_eq_getElem (by omega)⟩
        have hc := cmpA_T y x (hr y (List.mem_of_getElem? hy)) (hr x (List.mem_of_getElem? hx))
        by_cases hlt : cmpA y x < 0
        · have g5' : ∀ k u v, (i + j) / 2 ≤ k → k < hi → l[k]? = some u → l[d + m - 1 - k]? = some v → cmpA v u < 0 := fun k u v k1 k2 hu hv => by
            have h3 := ord_at oA (show a ≤ (i + j) / 2 by omega) k1 (by omega) hx hu
            have h4 := ord_at oB (show m ≤ d + m - 1 - k by omega) (show d + m - 1 - k ≤ d + m - 1 - (i + j) / 2 by omega) (by omega) hv hy
            unfold cmpA at hlt ⊢
            omega
          generalize cmpA y x = o at *
          repeat' (first | (apply X.loE; (· exact aR); (· first | (exact .eff (.loadO rfl rfl (readAl (i := (i + j) / 2) (by omega) hx))) | (exact .eff (.loadO rfl rfl (readAl (i := d + m - 1 - (i + j) / 2) (by omega) hy))) | (exact .eff (.toU rfl rfl rfl (by omega) (by omega))) | (exact .eff (.toI rfl rfl rfl (by omega) (by omega))) | (exact .eff (.half rfl rfl)) | exact .callL rfl rfl rfl (hc) rfl | exact bl (hc))) | refine X.loc ?_ | refine nx ?_ | refine X.cdT ?_ | refine X.cdF ?_ | (refine WP.condBit rfl ?_ ?_) | (refine WP.cond rfl ?_ ?_ <;> intro hcond) | (apply X.gsE; (· exact aR); (· exact aV); (· exact aW); (· intro hc; first | (exact .eff (.loadO rfl rfl (readAl (i := (i + j) / 2) (by omega) hx))) | (exact .eff (.loadO rfl rfl (readAl (i := d + m - 1 - (i + j) / 2) (by omega) hy))) | (exact .eff (.toU rfl rfl rfl (by omega) (by omega))) | (exact .eff (.toI rfl rfl rfl (by omega) (by omega))) | (exact .eff (.half rfl rfl)) | exact .callG rfl rfl rfl (hc) rfl | exact bg (hc)); (· exact aR)) | refine rb ?_ | refine nd ?_ | refine dk ?_ | fail)
          all_goals try (exfalso; simp at hcond; omega)
          refine ⟨(i, (i + j) / 2), ⟨g1, by dsimp only; omega, by dsimp only; omega, g4, g5'⟩, by dsimp only; omega, ?_⟩
          try dsimp only
          rw [show (((i + j) / 2 : Nat) : Int) = ((i : Int) + (j : Int)) / 2 by omega]
          refine St.to [] [] rfl rfl ?_ ?_ <;> (repeat' (first | exact tA | refine t1 ?_ | exact tB | refine t2 ?_ ?_ | refine t3 ?_ | refine t4 ?_ ?_ | refine .ofEq ?_ | refine OB.To.cut rfl rfl ?_ ?_ ?_ ?_ | refine OB.To.box rfl rfl ?_ | refine ⟨⟨_, rfl, ?_⟩, ?_⟩ | refine ⟨?_, ?_⟩ | fail))
        · have g4' : ∀ k u v, lo ≤ k → k < (i + j) / 2 + 1 → l[k]? = some u → l[d + m - 1 - k]? = some v → ¬ cmpA v u < 0 := fun k u v k1 k2 hu hv => by
            have h3 := ord_at oA (show a ≤ k by omega) (show k ≤ (i + j) / 2 by omega) (by omega) hu hx
            have h4 := ord_at oB (show m ≤ d + m - 1 - (i + j) / 2 by omega) (show d + m - 1 - (i + j) / 2 ≤ d + m - 1 - k by omega) (by omega) hy hv
            unfold cmpA at hlt ⊢
            omega
          generalize cmpA y x = o at *
          repeat' (first | (apply X.loE; (· exact aR); (· first | (exact .eff (.loadO rfl rfl (readAl (i := (i + j) / 2) (by omega) hx))) | (exact .eff (.loadO rfl rfl (readAl (i := d + m - 1 - (i + j) / 2) (by omega) hy))) | (exact .eff (.toU rfl rfl rfl (by omega) (by omega))) | (exact .eff (.toI rfl rfl rfl (by omega) (by omega))) | (exact .eff (.half rfl rfl)) | exact .callL rfl rfl rfl (hc) rfl | exact bl (hc))) | refine X.loc ?_ | refine nx ?_ | refine X.cdT ?_ | refine X.cdF ?_ | (refine WP.condBit rfl ?_ ?_) | (refine WP.cond rfl ?_ ?_ <;> intro hcond) | (apply X.gsE; (· exact aR); (· exact aV); (· exact aW); (· intro hc; first | (exact .eff (.loadO rfl rfl (readAl (i := (i + j) / 2) (by omega) hx))) | (exact .eff (.loadO rfl rfl (readAl (i := d + m - 1 - (i + j) / 2) (by omega) hy))) | (exact .eff (.toU rfl rfl rfl (by omega) (by omega))) | (exact .eff (.toI rfl rfl rfl (by omega) (by omega))) | (exact .eff (.half rfl rfl)) | exact .callG rfl rfl rfl (hc) rfl | exact bg (hc)); (· exact aR)) | refine rb ?_ | refine nd ?_ | refine dk ?_ | fail)
          all_goals try (exfalso; simp at hcond; omega)
          refine ⟨((i + j) / 2 + 1, j), ⟨by dsimp only; omega, by dsimp only; omega, g3, g4', g5⟩, by dsimp only; omega, ?_⟩
          try dsimp only
          rw [show (((i + j) / 2 + 1 : Nat) : Int) = ((i : Int) + (j : Int)) / 2 + 1 by omega]
          refine St.to [] [] rfl rfl ?_ ?_ <;> (repeat' (first | exact tA | refine t1 ?_ | exact tB | refine t2 ?_ ?_ | refine t3 ?_ | refine t4 ?_ ?_ | refine .ofEq ?_ | refine OB.To.cut rfl rfl ?_ ?_ ?_ ?_ | refine OB.To.box rfl rfl ?_ | refine ⟨⟨_, rfl, ?_⟩, ?_⟩ | refine ⟨?_, ?_⟩ | fail))
      case neg =>
        obtain rfl : i = j := by omega
        obtain ⟨e, he⟩ : ∃ e : Nat, d + m = i + e := ⟨d + m - i, by omega⟩
        have b1 : a ≤ i := by omega
        have b2 : i ≤ m := by omega
        have b3 : m ≤ e := by omega
        have b4 : e ≤ b := by omega
        have c1 : i = a ∨ e = b ∨ ∃ x y, l[i - 1]? = some x ∧ l[e]? = some y ∧ ¬ cmpA y x < 0 := by
          by_cases hl : i = lo
          · rcases hq with hq | hq
            · exact .inl (by omega)
            · exact .inr (.inl (by omega))
          · by_cases heb : e = b
            · exact .inr (.inl heb)
            · obtain ⟨x, hx⟩ : ∃ x, l[i - 1]? = some x := ⟨_, List.getElem?_eq_getElem (by omega)⟩
              obtain ⟨y, hy⟩ : ∃ y, l[e]? = some y := ⟨_, List.getElem?_eq_getElem (by omega)⟩
              exact .inr (.inr ⟨x, y, hx, hy, g4 (i - 1) x y (by omega) (by omega) hx (by rw [show d + m - 1 - (i - 1) = e by omega]; exact hy)⟩)
        have c2 : i = m ∨ e = m ∨ ∃ x y, l[i]? = some x ∧ l[e - 1]? = some y ∧ cmpA y x < 0 := by
          by_cases hh : i = hi
          · rcases hq with hq | hq
            · exact .inl (by omega)
            · exact .inr (.inl (by omega))
          · by_cases hem : e = m
            · exact .inr (.inl hem)
            · obtain ⟨x, hx⟩ : ∃ x, l[i]? = some x := ⟨_, List.getElem?_eq_getElem (by omega)⟩
              obtain ⟨y, hy⟩ : ∃ y, l[e - 1]? = some y := ⟨_, List.getElem?_eq_getElem (by omega)⟩
              exact .inr (.inr ⟨x, y, hx, hy, g5 i x y (by omega) (by omega) hx (by rw [show d + m - 1 - i = e - 1 by omega]; exact hy)⟩)
        have hend := sym_end b1 b2 b3 b4 hb he oA oB c1 c2
        clear c1 c2 g4 g5
        obtain ⟨t1', t2', t3', t4', t5', t6'⟩ := turned_seg l b1 b2 b3 b4 hb he
        have rt := fun h1 h2 => rotate_T l i m e h1 h2 (by omega) hl
        have htu : turned l i m e = if i < m ∧ m < e then rotL l m (m - i) (e - m) else l := rfl
        unfold arRw at rt
        rw [← hend]
        generalize turned l i m e = T at *
        repeat' (first | with_reducible refine WP.hold 185 ?_ | refine X.loc ?_ | refine nx ?_ | refine X.cdT ?_ | refine X.cdF ?_ | (refine WP.condBit rfl ?_ ?_) | (refine WP.cond rfl ?_ ?_ <;> intro hcond) | refine rb ?_ | refine nd ?_ | refine dk ?_ | fail)
        all_goals (try apply Held.mk)
        refine WP.join (ι := Unit) (fun _ => ⟨[(0, .osl 1000), (1, .fv (.int .i64 a)), (2, .fv (.int .i64 m)), (3, .fv (.int .i64 b)), (4, .fn 78 []), (18, .fv (.int .i64 d)), (20, .fv (.int .i64 i)), (24, .fv (.int .i64 e))], [(1000, .row 41 9 T.length ((T.flatMap encAr).map .fv))]⟩) (fun _ => True) ?_ ?_
        · have hei : (d : Int) + (m : Int) - (i : Int) = (e : Int) := by omega
          by_cases hrot : i < m ∧ m < e
          · rw [if_pos hrot] at htu
            have u1 := rt hrot.1 hrot.2
            rw [← htu, ← hei] at u1
            repeat' (first | refine X.loc ?_ | refine nx ?_ | refine X.cdT ?_ | refine X.cdF ?_ | (refine WP.condBit rfl ?_ ?_) | (refine WP.cond rfl ?_ ?_ <;> intro hcond) | refine rb ?_ | refine X.c0 (u1) ?_ | refine nd ?_ | refine dk ?_ | fail)
            refine ⟨(), trivial, ?_⟩
            try dsimp only
            rw [← hei]
            refine St.to [] [] rfl rfl ?_ ?_ <;> (repeat' (first | exact tA | refine t1 ?_ | exact tB | refine t2 ?_ ?_ | refine t3 ?_ | refine t4 ?_ ?_ | refine .ofEq ?_ | refine OB.To.cut rfl rfl ?_ ?_ ?_ ?_ | refine OB.To.box rfl rfl ?_ | refine ⟨⟨_, rfl, ?_⟩, ?_⟩ | refine ⟨?_, ?_⟩ | fail))
          · rw [if_neg hrot] at htu
            subst htu
            repeat' (first | refine X.loc ?_ | refine nx ?_ | refine X.cdT ?_ | refine X.cdF ?_ | (refine WP.condBit rfl ?_ ?_) | (refine WP.cond rfl ?_ ?_ <;> intro hcond) | refine rb ?_ | refine nd ?_ | refine dk ?_ | fail)
            refine ⟨(), trivial, ?_⟩
            try dsimp only
            rw [← hei]
            refine St.to [] [] rfl rfl ?_ ?_ <;> (repeat' (first | exact tA | refine t1 ?_ | exact tB | refine t2 ?_ ?_ | refine t3 ?_ | refine t4 ?_ ?_ | refine .ofEq ?_ | refine OB.To.cut rfl rfl ?_ ?_ ?_ ?_ | refine OB.To.box rfl rfl ?_ | refine ⟨⟨_, rfl, ?_⟩, ?_⟩ | refine ⟨?_, ?_⟩ | fail))
        · rintro _ _
          try dsimp only
          have hTr : ∀ x ∈ T, ArR x := fun x hx => hr x (t6' x hx)
          have oS := split3 (l := l) (a := a) (b := i) (c := m) b1 b2
          rw [oS] at oA
          have oS2 := split3 (l := l) (a := m) (b := e) (c := b) b3 b4
          rw [oS2] at oB
          obtain ⟨oA1, oA2, _⟩ := List.pairwise_append.1 oA
          obtain ⟨oB1, oB2, _⟩ := List.pairwise_append.1 oB
          rw [← t2'] at oA1
          rw [← t4'] at oA2
          rw [← t3'] at oB1
          rw [← t5'] at oB2
          repeat' (first | with_reducible refine WP.hold 199 ?_ | refine X.loc ?_ | refine nx ?_ | refine X.cdT ?_ | refine X.cdF ?_ | (refine WP.condBit rfl ?_ ?_) | (refine WP.cond rfl ?_ ?_ <;> intro hcond) | refine rb ?_ | refine nd ?_ | refine dk ?_ | fail)
          all_goals (try apply Held.mk)
          refine WP.join (ι := Unit) (fun _ => ⟨[(0, .osl 1000), (1, .fv (.int .i64 a)), (2, .fv (.int .i64 m)), (3, .fv (.int .i64 b)), (4, .fn 78 []), (18, .fv (.int .i64 d)), (20, .fv (.int .i64 i)), (24, .fv (.int .i64 e))], [(1000, .row 41 9 (mrgL T a d).length (((mrgL T a d).flatMap encAr).map .fv))]⟩) (fun _ => True) ?_ ?_
          · by_cases hc1 : a < i ∧ i < d
            · have u1 := ih (d - a) (by omega) T a i d rfl hTr hc1.1 hc1.2 (by omega) (by omega) oA1 oB1
              unfold arRw at u1
              repeat' (first | refine X.loc ?_ | refine nx ?_ | refine X.cdT ?_ | refine X.cdF ?_ | (refine WP.condBit rfl ?_ ?_) | (refine WP.cond rfl ?_ ?_ <;> intro hcond) | refine rb ?_ | refine X.c0 (u1) ?_ | refine nd ?_ | refine dk ?_ | fail)
              refine ⟨(), trivial, ?_⟩
              refine St.to [] [] rfl rfl ?_ ?_ <;> (repeat' (first | exact tA | refine t1 ?_ | exact tB | refine t2 ?_ ?_ | refine t3 ?_ | refine t4 ?_ ?_ | refine .ofEq ?_ | refine OB.To.cut rfl rfl ?_ ?_ ?_ ?_ | refine OB.To.box rfl rfl ?_ | refine ⟨⟨_, rfl, ?_⟩, ?_⟩ | refine ⟨?_, ?_⟩ | fail))
            · have e1 : mrgL T a d = T := by
                have hs := split3 (l := T) (a := a) (b := i) (c := d) b1 (by omega)
                refine mrgL_id (by omega) (by omega) ?_
                rw [hs]
                have n1 : (T.take i).drop a = [] ∨ (T.take d).drop i = [] := by
                  rcases Nat.lt_or_ge a i with h | h
                  · right
                    exact List.eq_nil_of_length_eq_zero (by rw [seg_len T (by omega) (by omega)]; omega)
                  · left
                    exact List.eq_nil_of_length_eq_zero (by rw [seg_len T (by omega) (by omega)]; omega)
                rcases n1 with n1 | n1
                · rw [n1, List.nil_append]
                  exact oB1
                · rw [n1, List.append_nil]
                  exact oA1
              rw [e1]
              repeat' (first | refine X.loc ?_ | refine nx ?_ | refine X.cdT ?_ | refine X.cdF ?_ | (refine WP.condBit rfl ?_ ?_) | (refine WP.cond rfl ?_ ?_ <;> intro hcond) | refine rb ?_ | refine nd ?_ | refine dk ?_ | fail)
              refine ⟨(), trivial, ?_⟩
              refine St.to [] [] rfl rfl ?_ ?_ <;> (repeat' (first | exact tA | refine t1 ?_ | exact tB | refine t2 ?_ ?_ | refine t3 ?_ | refine t4 ?_ ?_ | refine .ofEq ?_ | refine OB.To.cut rfl rfl ?_ ?_ ?_ ?_ | refine OB.To.box rfl rfl ?_ | refine ⟨⟨_, rfl, ?_⟩, ?_⟩ | refine ⟨?_, ?_⟩ | fail))
          · rintro _ _
            try dsimp only
            have hRl : (mrgL T a d).length = T.length := mrgL_len (by omega) (by omega)
            have hRr : ∀ x ∈ mrgL T a d, ArR x := fun x hx => hTr x (mrgL_mem hx)
            have q1 := mrgL_seg (l := T) (a := a) (d := d) (p := d) (q := e) (by omega) (by omega) (by omega) (by omega) (by omega)
            have q2 := mrgL_seg (l := T) (a := a) (d := d) (p := e) (q := b) (by omega) (by omega) (by omega) (by omega) (by omega)
            rw [← q1] at oA2
            rw [← q2] at oB2
            generalize mrgL T a d = R at *
            by_cases hc2 : d < e ∧ e < b
            · have u1 := ih (b - d) (by omega) R d e b rfl hRr hc2.1 hc2.2 (by omega) (by omega) oA2 oB2
              unfold arRw at u1
              generalize mrgL R d b = U at *
              repeat' (first | refine X.loc ?_ | refine nx ?_ | refine X.cdT ?_ | refine X.cdF ?_ | (refine WP.condBit rfl ?_ ?_) | (refine WP.cond rfl ?_ ?_ <;> intro hcond) | refine rb ?_ | refine X.c0 (u1) ?_ | refine nd ?_ | refine dk ?_ | fail)
              refine .ofL (s' := ⟨[], [(1000, .row 41 9 U.length ((U.flatMap encAr).map .fv))]⟩) (by first | exact .inl rfl | exact .inr rfl) ?_ rfl rfl (by repeat' (first | exact trivial | refine ⟨⟨_, rfl, fun _ _ _ _ h => h⟩, ?_⟩))
              refine St.to [] [] rfl rfl ?_ ?_ <;> (repeat' (first | exact tA | refine t1 ?_ | exact tB | refine t2 ?_ ?_ | refine t3 ?_ | refine t4 ?_ ?_ | refine .ofEq ?_ | refine OB.To.cut rfl rfl ?_ ?_ ?_ ?_ | refine OB.To.box rfl rfl ?_ | refine ⟨⟨_, rfl, ?_⟩, ?_⟩ | refine ⟨?_, ?_⟩ | fail))
            · have e1 : mrgL R d b = R := by
                have hs := split3 (l := R) (a := d) (b := e) (c := b) (by omega) (by omega)
                refine mrgL_id (by omega) (by omega) ?_
                rw [hs]
                have n1 : (R.take e).drop d = [] ∨ (R.take b).drop e = [] := by
                  rcases Nat.lt_or_ge d e with h | h
                  · right
                    exact List.eq_nil_of_length_eq_zero (by rw [seg_len R (by omega) (by omega)]; omega)
                  · left
                    exact List.eq_nil_of_length_eq_zero (by rw [seg_len R (by omega) (by omega)]; omega)
                rcases n1 with n1 | n1
                · rw [n1, List.nil_append]
                  exact oB2
                · rw [n1, List.append_nil]
                  exact oA2
              rw [e1]
              repeat' (first | refine X.loc ?_ | refine nx ?_ | refine X.cdT ?_ | refine X.cdF ?_ | (refine WP.condBit rfl ?_ ?_) | (refine WP.cond rfl ?_ ?_ <;> intro hcond) | refine rb ?_ | refine nd ?_ | refine dk ?_ | fail)
              refine .ofL (s' := ⟨[], [(1000, .row 41 9 R.length ((R.flatMap encAr).map .fv))]⟩) (by first | exact .inl rfl | exact .inr rfl) ?_ rfl rfl (by repeat' (first | exact trivial | refine ⟨⟨_, rfl, fun _ _ _ _ h => h⟩, ?_⟩))
              refine St.to [] [] rfl rfl ?_ ?_ <;> (repeat' (first | exact tA | refine t1 ?_ | exact tB | refine t2 ?_ ?_ | refine t3 ?_ | refine t4 ?_ ?_ | refine .ofEq ?_ | refine OB.To.cut rfl rfl ?_ ?_ ?_ ?_ | refine OB.To.box rfl rfl ?_ | refine ⟨⟨_, rfl, ?_⟩, ?_⟩ | refine ⟨?_, ?_⟩ | fail))
end Go.Proofs.YtmidechdlbcepaaGreat.AS

namespace Go.Proofs.YtmidechdlbcepaaGreat.AS
open Go.RowKit
set_option maxRecDepth 100000

def blkA (l : List Ar) : Nat → List Ar
  | 0 => l
  | k + 1 => mrgL (blkA l k) (20 * k) (20 * k + 20)
theorem blkA_len (l : List Ar) : ∀ k, 20 * k ≤ l.length → (blkA l k).length = l.length
  | 0, _ => rfl
  | k + 1, h => by
    have ih := blkA_len l k (by omega)
    rw [blkA, mrgL_len (by omega) (by omega), ih]
theorem blkA_mem {l : List Ar} {x : Ar} : ∀ {k : Nat}, x ∈ blkA l k → x ∈ l
  | 0, h => h
  | k + 1, h => blkA_mem (mrgL_mem h)
theorem mrgL_all (l : List Ar) {n : Nat} (h : n = l.length) : mrgL l 0 n = sortA l := by
  subst h
  rw [mrgL, List.take_zero, List.take_length, List.drop_zero, List.drop_length]
  simp
theorem sortA_two (l : List Ar) {m : Nat} (hm : m ≤ l.length) : sortA (sortA (l.take m) ++ sortA (l.drop m)) = sortA l := by
  have s1 := sortA_stab (l.take m)
  have s2 := sortA_stab (l.drop m)
  have s3 := sortA_stab (sortA (l.take m) ++ sortA (l.drop m))
  refine StabA.is ⟨s3.ord, fun p => ?_⟩
  rw [s3.flt, List.filter_append, s1.flt, s2.flt, ← List.filter_append, List.take_append_drop]
theorem mrgL_self {l : List Ar} {a : Nat} (h : a ≤ l.length) : mrgL l a a = l := mrgL_id (Nat.le_refl _) h (by rw [List.drop_eq_nil_of_le (by rw [List.length_take]; omega)]; exact .nil)
def blksA (l : List Ar) : List Ar := mrgL (blkA l (l.length / 20)) (20 * (l.length / 20)) l.length
theorem blks_small {l : List Ar} (h : l.length ≤ 20) : blksA l = sortA l := by
  unfold blksA
  by_cases h2 : l.length = 20
  · rw [h2]
    show mrgL (mrgL l 0 20) 20 20 = sortA l
    rw [mrgL_self (by rw [mrgL_len (by omega) (by omega)]; omega), mrgL_all l h2.symm]
  · rw [show l.length / 20 = 0 by omega]
    exact mrgL_all l rfl
theorem mrgL_two {l : List Ar} {m n : Nat} (hm : m ≤ n) (hn : n = l.length) : mrgL (mrgL l 0 m) m n = sortA (l.take m) ++ sortA (l.drop m) := by
  subst hn
  have e : mrgL l 0 m = sortA (l.take m) ++ l.drop m := by rw [mrgL, List.take_zero, List.drop_zero, List.nil_append]
  have hl : (sortA (l.take m)).length = m := by
    rw [sortA, (List.mergeSort_perm _ geA).length_eq, List.length_take]
    omega
  have := mrgL_app (sortA (l.take m)) (l.drop m) []
  rw [List.append_nil, List.append_nil, hl, List.length_drop, show m + (l.length - m) = l.length by omega] at this
  rw [e, this]
theorem blks_big {l : List Ar} (h1 : 20 < l.length) (h2 : l.length ≤ 40) : blksA l = sortA (l.take 20) ++ sortA (l.drop 20) := by
  unfold blksA
  by_cases h3 : l.length = 40
  · rw [h3]
    show mrgL (mrgL (mrgL l 0 20) 20 40) 40 40 = _
    have hl : (mrgL l 0 20).length = 40 := by rw [mrgL_len (by omega) (by omega), h3]
    rw [mrgL_self (by rw [mrgL_len (by omega) (by omega)]; omega), mrgL_two (by omega) h3.symm]
  · rw [show l.length / 20 = 1 by omega]
    exact mrgL_two (m := 20) (by omega) rfl
theorem blks_all {l : List Ar} (h1 : 20 < l.length) (h2 : l.length ≤ 40) : mrgL (blksA l) 0 l.length = sortA l ∧ (blksA l).length = l.length ∧ ((((blksA l).take 20).drop 0).Pairwise fun x y => y.prio ≤ x.prio) ∧ ((((blksA l).take l.length).drop 20).Pairwise fun x y => y.prio ≤ x.prio) ∧ ∀ x, x ∈ blksA l → x ∈ l := by
  have hb := blks_big h1 h2
  have hl1 : (sortA (l.take 20)).length = 20 := by rw [sortA, (List.mergeSort_perm _ geA).length_eq, List.length_take]; omega
  have hl2 : (sortA (l.drop 20)).length = l.length - 20 := by rw [sortA, (List.mergeSort_perm _ geA).length_eq, List.length_drop]
  have hlen : (blksA l).length = l.length := by rw [hb, List.length_append, hl1, hl2]; omega
  refine ⟨by rw [mrgL_all _ hlen.symm, hb, sortA_two l (by omega)], hlen, ?_, ?_, fun x hx => ?_⟩
  · rw [hb, List.take_left' hl1, List.drop_zero]
    exact (sortA_stab _).ord
  · rw [← hlen, List.take_length, hb, List.drop_left' hl1]
    exact (sortA_stab _).ord
  · rw [hb] at hx
    rcases List.mem_append.1 hx with hx | hx
    · exact List.mem_of_mem_take ((sortA_stab _).mem.1 hx)
    · exact List.mem_of_mem_drop ((sortA_stab _).mem.1 hx)
end Go.Proofs.YtmidechdlbcepaaGreat.AS
