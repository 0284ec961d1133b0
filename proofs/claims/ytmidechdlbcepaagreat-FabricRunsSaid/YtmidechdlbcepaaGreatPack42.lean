import Derived.Test.YtmidechdlbcepaaGreatPack41
import Derived.Test.YtmidechdlbcepaaGreatPack39
import Derived.Test.YtmidechdlbcepaaGreatPack28
import Derived.Test.YtmidechdlbcepaaGreatPack30
set_option linter.unusedSimpArgs false
set_option linter.unusedVariables false
namespace Go.Proofs.YtmidechdlbcepaaGreat
open Go.RowKit
set_option maxRecDepth 100000
def blkA (l : List Ac) : Nat → List Ac
  | 0 => l
  | k + 1 => mrgL (blkA l k) (20 * k) (20 * k + 20)
theorem blkA_len (l : List Ac) : ∀ k, 20 * k ≤ l.length → (blkA l k).length = l.length
  | 0, _ => rfl
  | k + 1, h => by
    have ih := blkA_len l k (by omega)
    rw [blkA, mrgL_len (by omega) (by omega), ih]
theorem blkA_mem {l : List Ac} {x : Ac} : ∀ {k : Nat}, x ∈ blkA l k → x ∈ l
  | 0, h => h
  | k + 1, h => blkA_mem (mrgL_mem h)
theorem mrgL_all (l : List Ac) {n : Nat} (h : n = l.length) : mrgL l 0 n = sortA l := by
  subst h
  rw [mrgL, List.take_zero, List.take_length, List.drop_zero, List.drop_length]
  simp
theorem sortA_two (l : List Ac) {m : Nat} (hm : m ≤ l.length) : sortA (sortA (l.take m) ++ sortA (l.drop m)) = sortA l := by
  have s1 := sortA_stab (l.take m)
  have s2 := sortA_stab (l.drop m)
  have s3 := sortA_stab (sortA (l.take m) ++ sortA (l.drop m))
  refine StabA.is ⟨s3.ord, fun p => ?_⟩
  rw [s3.flt, List.filter_append, s1.flt, s2.flt, ← List.filter_append, List.take_append_drop]
theorem mrgL_self {l : List Ac} {a : Nat} (h : a ≤ l.length) : mrgL l a a = l := mrgL_id (Nat.le_refl _) h (by rw [List.drop_eq_nil_of_le (by rw [List.length_take]; omega)]; exact .nil)
def blksA (l : List Ac) : List Ac := mrgL (blkA l (l.length / 20)) (20 * (l.length / 20)) l.length
theorem blks_small {l : List Ac} (h : l.length ≤ 20) : blksA l = sortA l := by
  unfold blksA
  by_cases h2 : l.length = 20
  · rw [h2]
    show mrgL (mrgL l 0 20) 20 20 = sortA l
    rw [mrgL_self (by rw [mrgL_len (by omega) (by omega)]; omega), mrgL_all l h2.symm]
  · rw [show l.length / 20 = 0 by omega]
    exact mrgL_all l rfl
theorem mrgL_two {l : List Ac} {m n : Nat} (hm : m ≤ n) (hn : n = l.length) : mrgL (mrgL l 0 m) m n = sortA (l.take m) ++ sortA (l.drop m) := by
  subst hn
  have e : mrgL l 0 m = sortA (l.take m) ++ l.drop m := by rw [mrgL, List.take_zero, List.drop_zero, List.nil_append]
  have hl : (sortA (l.take m)).length = m := by
    rw [sortA, (List.mergeSort_perm _ geA).length_eq, List.length_take]
    omega
  have := mrgL_app (sortA (l.take m)) (l.drop m) []
  rw [List.append_nil, List.append_nil, hl, List.length_drop, show m + (l.length - m) = l.length by omega] at this
  rw [e, this]
theorem blks_big {l : List Ac} (h1 : 20 < l.length) (h2 : l.length ≤ 40) : blksA l = sortA (l.take 20) ++ sortA (l.drop 20) := by
  unfold blksA
  by_cases h3 : l.length = 40
  · rw [h3]
    show mrgL (mrgL (mrgL l 0 20) 20 40) 40 40 = _
    have hl : (mrgL l 0 20).length = 40 := by rw [mrgL_len (by omega) (by omega), h3]
    rw [mrgL_self (by rw [mrgL_len (by omega) (by omega)]; omega), mrgL_two (by omega) h3.symm]
  · rw [show l.length / 20 = 1 by omega]
    exact mrgL_two (m := 20) (by omega) rfl
theorem blks_all {l : List Ac} (h1 : 20 < l.length) (h2 : l.length ≤ 40) : mrgL (blksA l) 0 l.length = sortA l ∧ (blksA l).length = l.length ∧ ((((blksA l).take 20).drop 0).Pairwise fun x y => y.prio ≤ x.prio) ∧ ((((blksA l).take l.length).drop 20).Pairwise fun x y => y.prio ≤ x.prio) ∧ ∀ x, x ∈ blksA l → x ∈ l := by
  have hb := blks_big h1 h2
  have hl1 : (sortA (l.take 20)).length = 20 := by rw [sortA, (List.mergeSort_perm _ geA).length_eq, List.length_take]; omega
  have hl2 : (sortA (l.drop 20)).length = l.length - 20 := by rw [sortA, (List.mergeSort_perm _ geA).length_eq, List.length_drop]
  have hlen : (blksA l).length = l.length := by rw [hb, List.length_append, hl1, hl2]; omega
  refine ⟨by rw [mrgL_all _ hlen.symm, hb, sortA_two l (by omega)], hlen, ?_, ?_, fun x hx => ?_⟩
  · rw [hb, List.take_left' hl1, List.drop_zero]
    exact (sortA_stab _).ord
  · rw [← hlen, List.take_length, hb, List.drop_left' hl1]
    exact (sortA_stab _).ord
  · rw [hb] at hx
    rcases List.mem_append.1 hx with hx | hx
    · exact List.mem_of_mem_take ((sortA_stab _).mem.1 hx)
    · exact List.mem_of_mem_drop ((sortA_stab _).mem.1 hx)
theorem insM_T (l : List Ac) (a b : Nat) (hr : ∀ x ∈ l, AcR x) (ha : a ≤ b) (hb : b ≤ l.length) (hl : l.length ≤ 40) : FunO Tryz.prog 171 [.osl 1000, .fv (.int .i64 a), .fv (.int .i64 b), .fn 133 []] [(1000, acRw l)] (.tup []) [(1000, acRw (mrgL l a b))] := by
  have h := insertion_T l a b hr ha hb hl
  rw [insN_sort l ha hb] at h
  exact h
set_option maxHeartbeats 8000000 in
theorem stableCmp_T (l : List Ac) (hr : ∀ x ∈ l, AcR x) (hl : l.length ≤ 40) : FunO Tryz.prog 155 [.osl 1000, .fv (.int .i64 l.length), .fn 133 []] [(1000, acRw l)] (.tup []) [(1000, acRw (sortA l))] := by
  refine FunO.bodyL tbl_ok Tryz.func155 rfl (by kernel_rfl) rfl rfl rfl ?_
  have hS : (sortA l).length = l.length := by rw [sortA, (List.mergeSort_perm _ geA).length_eq]
  unfold acRw
  repeat' (first | refine X.loc ?_ | refine nx ?_ | refine X.cdT ?_ | refine X.cdF ?_ | refine cb ?_ ?_ | (refine cc ?_ ?_ <;> intro hcond) | refine rb ?_ | refine nd ?_ | refine dk ?_ | fail)
  refine WP.loop (ι := Nat) (fun k => ⟨[(0, .osl 1000), (1, .fv (.int .i64 l.length)), (2, .fn 133 []), (6, .fv (.int .i64 20)), (7, .fv (.int .i64 (20 * k : Nat))), (8, .fv (.int .i64 (20 * k + 20 : Nat)))], [(1000, .row 38 9 (blkA l k).length (((blkA l k).flatMap encAc).map .fv))]⟩) (fun k => 20 * k ≤ l.length) (fun k => l.length - 20 * k) 0 (by omega) ?_ ?_
  · try dsimp only
    rw [show blkA l 0 = l from rfl]
    exact tq [] []
  rintro k hk
  try dsimp only [cond]
  have hkl := blkA_len l k hk
  have hkr : ∀ x ∈ blkA l k, AcR x := fun x hx => hr x (blkA_mem hx)
  by_cases hlt : 20 * k + 20 ≤ l.length
  case pos =>
    have u1 := insM_T (blkA l k) (20 * k) (20 * k + 20) hkr (by omega) (by omega) (by omega)
    unfold acRw at u1
    have hs : blkA l (k + 1) = mrgL (blkA l k) (20 * k) (20 * k + 20) := rfl
    rw [← hs] at u1
    generalize blkA l k = R at *
    repeat' (first | refine X.loc ?_ | refine nx ?_ | refine X.cdT ?_ | refine X.cdF ?_ | refine cb ?_ ?_ | (refine cc ?_ ?_ <;> intro hcond) | refine rb ?_ | refine X.c0 (u1) ?_ | refine nd ?_ | refine dk ?_ | fail)
    refine ⟨k + 1, by omega, by omega, ?_⟩
    try dsimp only [cond]
    rw [show 20 * (k + 1) = 20 * k + 20 by omega, show ((20 * k + 20 + 20 : Nat) : Int) = ((20 * k + 20 : Nat) : Int) + 20 by omega]
    exact tq [] []
  case neg =>
    have hkq : k = l.length / 20 := by omega
    have u1 := insM_T (blkA l k) (20 * k) l.length hkr (by omega) (by omega) (by omega)
    have hB : mrgL (blkA l k) (20 * k) l.length = blksA l := by rw [hkq]; rfl
    rw [hB] at u1
    unfold acRw at u1
    clear hB
    generalize blkA l k = R at *
    by_cases hsm : l.length ≤ 20
    · rw [blks_small hsm] at u1
      generalize sortA l = S at *
      repeat' (first | refine X.loc ?_ | refine nx ?_ | refine X.cdT ?_ | refine X.cdF ?_ | refine cb ?_ ?_ | (refine cc ?_ ?_ <;> intro hcond) | refine rb ?_ | refine X.c0 (u1) ?_ | refine nd ?_ | refine dk ?_ | fail)
      refine WP.loop (ι := Unit) (fun _ => ⟨[(0, .osl 1000), (1, .fv (.int .i64 l.length)), (2, .fn 133 []), (6, .fv (.int .i64 20))], [(1000, .row 38 9 S.length ((S.flatMap encAc).map .fv))]⟩) (fun _ => True) (fun _ => 0) () trivial ?_ ?_
      · exact tq [] []
      rintro _ _
      try dsimp only [cond]
      repeat' (first | refine X.loc ?_ | refine nx ?_ | refine X.cdT ?_ | refine X.cdF ?_ | refine cb ?_ ?_ | (refine cc ?_ ?_ <;> intro hcond) | refine rb ?_ | refine nd ?_ | refine dk ?_ | fail)
      exact rq ⟨[], [(1000, .row 38 9 S.length ((S.flatMap encAc).map .fv))]⟩ (tq [] [])
    · obtain ⟨z1, z2, z3, z4, z5⟩ := blks_all (l := l) (by omega) hl
      have sy := symMerge_T _ (blksA l) 0 20 l.length rfl (fun x hx => hr x (z5 x hx)) (by omega) (by omega) (by omega) (by omega) z3 z4
      rw [z1] at sy
      unfold acRw at sy
      clear z1 z3 z4 z5
      generalize blksA l = B at *
      generalize sortA l = S at *
      repeat' (first | refine X.loc ?_ | refine nx ?_ | refine X.cdT ?_ | refine X.cdF ?_ | refine cb ?_ ?_ | (refine cc ?_ ?_ <;> intro hcond) | refine rb ?_ | refine X.c0 (u1) ?_ | refine nd ?_ | refine dk ?_ | fail)
      refine WP.loop (ι := Bool) (fun q => ⟨[(0, .osl 1000), (1, .fv (.int .i64 l.length)), (2, .fn 133 []), (6, .fv (.int .i64 (cond q 40 20)))], [(1000, .row 38 9 (cond q S B).length (((cond q S B).flatMap encAc).map .fv))]⟩) (fun _ => True) (fun q => cond q 0 1) false trivial ?_ ?_
      · try dsimp only
        refine St.to [] [] rfl rfl ?_ ?_ <;> (repeat' (first | exact tA | refine t1 ?_ | exact tB | refine t2 ?_ ?_ | refine t3 ?_ | refine t4 ?_ ?_ | refine .ofEq ?_ | refine OB.To.cut rfl rfl ?_ ?_ ?_ ?_ | refine OB.To.box rfl rfl ?_ | refine ⟨⟨_, rfl, ?_⟩, ?_⟩ | refine ⟨?_, ?_⟩ | fail))
        all_goals rfl
      rintro q _
      cases q with
      | true =>
        try dsimp only [cond]
        repeat' (first | refine X.loc ?_ | refine nx ?_ | refine X.cdT ?_ | refine X.cdF ?_ | refine cb ?_ ?_ | (refine cc ?_ ?_ <;> intro hcond) | refine rb ?_ | refine nd ?_ | refine dk ?_ | fail)
        refine .ofL (s' := ⟨[], [(1000, .row 38 9 S.length ((S.flatMap encAc).map .fv))]⟩) (by first | exact .inl rfl | exact .inr rfl) ?_ rfl rfl (by repeat' (first | exact trivial | refine ⟨⟨_, rfl, fun _ _ _ _ h => h⟩, ?_⟩))
        refine St.to [] [] rfl rfl ?_ ?_ <;> (repeat' (first | exact tA | refine t1 ?_ | exact tB | refine t2 ?_ ?_ | refine t3 ?_ | refine t4 ?_ ?_ | refine .ofEq ?_ | refine OB.To.cut rfl rfl ?_ ?_ ?_ ?_ | refine OB.To.box rfl rfl ?_ | refine ⟨⟨_, rfl, ?_⟩, ?_⟩ | refine ⟨?_, ?_⟩ | fail))
        all_goals rfl
      | false =>
        try dsimp only [cond]
        repeat' (first | refine X.loc ?_ | refine nx ?_ | refine X.cdT ?_ | refine X.cdF ?_ | refine cb ?_ ?_ | (refine cc ?_ ?_ <;> intro hcond) | refine rb ?_ | refine nd ?_ | refine dk ?_ | fail)
        by_cases h40 : l.length = 40
        · refine WP.loop (ι := Bool) (fun q => ⟨[(0, .osl 1000), (1, .fv (.int .i64 l.length)), (2, .fn 133 []), (6, .fv (.int .i64 20)), (7, .fv (.int .i64 (cond q 40 0))), (8, .fv (.int .i64 (cond q 80 40)))], [(1000, .row 38 9 (cond q S B).length (((cond q S B).flatMap encAc).map .fv))]⟩) (fun _ => True) (fun q => cond q 0 1) false trivial ?_ ?_
          · try dsimp only
            refine St.to [] [] rfl rfl ?_ ?_ <;> (repeat' (first | exact tA | refine t1 ?_ | exact tB | refine t2 ?_ ?_ | refine t3 ?_ | refine t4 ?_ ?_ | refine .ofEq ?_ | refine OB.To.cut rfl rfl ?_ ?_ ?_ ?_ | refine OB.To.box rfl rfl ?_ | refine ⟨⟨_, rfl, ?_⟩, ?_⟩ | refine ⟨?_, ?_⟩ | fail))
            all_goals rfl
          rintro q _
          cases q with
          | true =>
            try dsimp only [cond]
            repeat' (first | refine X.loc ?_ | refine nx ?_ | refine X.cdT ?_ | refine X.cdF ?_ | refine cb ?_ ?_ | (refine cc ?_ ?_ <;> intro hcond) | refine rb ?_ | refine nd ?_ | refine dk ?_ | fail)
            refine ⟨true, trivial, by decide, ?_⟩
            try dsimp only [cond]
            refine St.to [] [] rfl rfl ?_ ?_ <;> (repeat' (first | exact tA | refine t1 ?_ | exact tB | refine t2 ?_ ?_ | refine t3 ?_ | refine t4 ?_ ?_ | refine .ofEq ?_ | refine OB.To.cut rfl rfl ?_ ?_ ?_ ?_ | refine OB.To.box rfl rfl ?_ | refine ⟨⟨_, rfl, ?_⟩, ?_⟩ | refine ⟨?_, ?_⟩ | fail))
            all_goals rfl
          | false =>
            try dsimp only [cond]
            rw [h40] at sy
            repeat' (first | refine X.loc ?_ | refine nx ?_ | refine X.cdT ?_ | refine X.cdF ?_ | refine cb ?_ ?_ | (refine cc ?_ ?_ <;> intro hcond) | refine rb ?_ | refine X.c0 (sy) ?_ | refine nd ?_ | refine dk ?_ | fail)
            refine ⟨true, trivial, by decide, ?_⟩
            try dsimp only [cond]
            refine St.to [] [] rfl rfl ?_ ?_ <;> (repeat' (first | exact tA | refine t1 ?_ | exact tB | refine t2 ?_ ?_ | refine t3 ?_ | refine t4 ?_ ?_ | refine .ofEq ?_ | refine OB.To.cut rfl rfl ?_ ?_ ?_ ?_ | refine OB.To.box rfl rfl ?_ | refine ⟨⟨_, rfl, ?_⟩, ?_⟩ | refine ⟨?_, ?_⟩ | fail))
            all_goals rfl
        · refine WP.loop (ι := Unit) (fun _ => ⟨[(0, .osl 1000), (1, .fv (.int .i64 l.length)), (2, .fn 133 []), (6, .fv (.int .i64 20)), (7, .fv (.int .i64 0)), (8, .fv (.int .i64 40))], [(1000, .row 38 9 B.length ((B.flatMap encAc).map .fv))]⟩) (fun _ => True) (fun _ => 0) () trivial ?_ ?_
          · skip
            refine St.to [] [] rfl rfl ?_ ?_ <;> (repeat' (first | exact tA | refine t1 ?_ | exact tB | refine t2 ?_ ?_ | refine t3 ?_ | refine t4 ?_ ?_ | refine .ofEq ?_ | refine OB.To.cut rfl rfl ?_ ?_ ?_ ?_ | refine OB.To.box rfl rfl ?_ | refine ⟨⟨_, rfl, ?_⟩, ?_⟩ | refine ⟨?_, ?_⟩ | fail))
            all_goals rfl
          rintro _ _
          try dsimp only [cond]
          repeat' (first | refine X.loc ?_ | refine nx ?_ | refine X.cdT ?_ | refine X.cdF ?_ | refine cb ?_ ?_ | (refine cc ?_ ?_ <;> intro hcond) | refine rb ?_ | refine X.c0 (sy) ?_ | refine nd ?_ | refine dk ?_ | fail)
          refine ⟨true, trivial, by decide, ?_⟩
          try dsimp only [cond]
          refine St.to [] [] rfl rfl ?_ ?_ <;> (repeat' (first | exact tA | refine t1 ?_ | exact tB | refine t2 ?_ ?_ | refine t3 ?_ | refine t4 ?_ ?_ | refine .ofEq ?_ | refine OB.To.cut rfl rfl ?_ ?_ ?_ ?_ | refine OB.To.box rfl rfl ?_ | refine ⟨⟨_, rfl, ?_⟩, ?_⟩ | refine ⟨?_, ?_⟩ | fail))
          all_goals rfl
theorem sortStable_T (l : List Ac) (hr : ∀ x ∈ l, AcR x) (hl : l.length ≤ 40) : FunO Tryz.prog 132 [.osl 1000, .fn 133 []] [(1000, acRw l)] (.tup []) [(1000, acRw (sortA l))] := by
  have u1 := stableCmp_T l hr hl
  unfold acRw at u1
  refine FunO.bodyL tbl_ok Tryz.func132 rfl (by kernel_rfl) rfl rfl rfl ?_
  unfold acRw
  generalize sortA l = S at *
  repeat' (first | refine X.loc ?_ | refine nx ?_ | refine X.cdT ?_ | refine X.cdF ?_ | refine cb ?_ ?_ | (refine cc ?_ ?_ <;> intro hcond) | refine rb ?_ | refine X.c0 (u1) ?_ | refine nd ?_ | refine dk ?_ | fail)
  exact rq ⟨[], [(1000, .row 38 9 S.length ((S.flatMap encAc).map .fv))]⟩ (tq [] [])
end Go.Proofs.YtmidechdlbcepaaGreat
namespace Go.Proofs.YtmidechdlbcepaaGreat.AS
open Go.RowKit
set_option maxRecDepth 100000
theorem readE {α : Type} {e : α → List FV} {s : Nat} (he : ∀ x, (e x).length = s) {l : List α} {i off : Nat} {x : α} (h : off = i * s) (hx : l[i]? = some x) : dropO off ((l.flatMap e).map AV.fv) = some ((e x).map .fv ++ ((l.drop (i + 1)).flatMap e).map .fv) := by
  subst h
  have hlt := (List.getElem?_eq_some_iff.1 hx).1
  have hlen : ((l.flatMap e).map AV.fv).length = l.length * s := by rw [List.length_map, flatMap_len he]
  have h1 : (l.flatMap e).drop (i * s) = e x ++ (l.drop (i + 1)).flatMap e := by
    have e1 : l = l.take i ++ x :: l.drop (i + 1) := by
      rw [← (List.getElem?_eq_some_iff.1 hx).2, ← List.drop_eq_getElem_cons hlt, List.take_append_drop]
    have e2 : ((l.take i).flatMap e).length = i * s := by rw [flatMap_len he, List.length_take, Nat.min_eq_left (by omega)]
    have e3 : l.flatMap e = (l.take i).flatMap e ++ (e x ++ (l.drop (i + 1)).flatMap e) := by
      conv => lhs; rw [e1]
      rw [List.flatMap_append, List.flatMap_cons]
    rw [e3, ← e2, List.drop_left']
    rfl
  rw [dropO_mk (by rw [hlen]; exact Nat.mul_le_mul_right s (by omega)), ← List.map_drop, h1, List.map_append]
theorem readAl {l : List Ar} {i off : Nat} {x : Ar} (h : off = i * 9) (hx : l[i]? = some x) : readA tbl 41 off ((l.flatMap encAr).map .fv) = some (.agg ((encAr x).map .fv)) := by
  unfold readA
  rw [readE encAr_len h hx]
  generalize ((l.drop (i + 1)).flatMap encAr).map AV.fv = r
  cases r with
  | nil => rfl
  | cons a r => rfl
theorem setAl {l : List Ar} {i off : Nat} {x : Ar} (h : off = i * 9) (hi : i < l.length) : setC ((l.flatMap encAr).map .fv) off ((encAr x).map .fv) = some (((l.set i x).flatMap encAr).map .fv) := by
  subst h
  induction l generalizing i with
  | nil => simp at hi
  | cons y l ih =>
    cases i with
    | zero => simp [setC, encAr, encFr]
    | succ i =>
      have := ih (i := i) (by simpa using hi)
      rw [show (i + 1) * 9 = (i * 9) + 9 from by omega]
      simp only [List.flatMap_cons, List.map_append, List.set_cons_succ]
      show setC (AV.fv _ :: AV.fv _ :: AV.fv _ :: AV.fv _ :: AV.fv _ :: AV.fv _ :: AV.fv _ :: AV.fv _ :: AV.fv _ :: (l.flatMap encAr).map AV.fv) _ _ = _
      simp only [setC, this]
      rfl
def arRw (l : List Ar) : OB := .row 41 9 l.length ((l.flatMap encAr).map .fv)
def cmpA (a b : Ar) : Int := b.prio - a.prio
theorem cmpA_T (a b : Ar) (ha : ArR a) (hb : ArR b) : Fun Tryz.prog 78 [.agg ((encAr a).map .fv), .agg ((encAr b).map .fv)] (.fv (.int .i64 (cmpA a b))) := by
  unfold ArR at ha hb
  unfold cmpA
  refine Fun.body tbl_ok Tryz.func78 rfl (by kernel_rfl) rfl rfl rfl ?_
  repeat' (first | refine X.loc ?_ | refine nx ?_ | refine X.cdT ?_ | refine X.cdF ?_ | refine cb ?_ ?_ | (refine cc ?_ ?_ <;> intro hcond) | refine rb ?_ | refine nd ?_ | refine dk ?_ | fail)
  refine .f1 (.inl rfl) rfl ?_
  unfold Ar.prio
  rw [show -b.port - -a.port = a.port - b.port by omega]
def swp (l : List Ar) (i j : Nat) : List Ar := match l[i]?, l[j]? with
  | some x, some y => (l.set i y).set j x
  | _, _ => l
theorem swp_len (l : List Ar) (i j : Nat) : (swp l i j).length = l.length := by
  unfold swp
  split <;> simp
def swpN (l : List Ar) (a b : Nat) : Nat → List Ar
  | 0 => l
  | n + 1 => swp (swpN l a b n) (a + n) (b + n)
theorem swpN_len (l : List Ar) (a b : Nat) : ∀ n, (swpN l a b n).length = l.length
  | 0 => rfl
  | n + 1 => by rw [swpN, swp_len, swpN_len l a b n]
set_option maxHeartbeats 4000000 in
theorem swapRange_T (l : List Ar) (a b n : Nat) (ha : a + n ≤ l.length) (hb : b + n ≤ l.length) (hl : l.length ≤ 40) : FunO Tryz.prog 176 [.osl 1000, .fv (.int .i64 a), .fv (.int .i64 b), .fv (.int .i64 n), .fn 78 []] [(1000, arRw l)] (.tup []) [(1000, arRw (swpN l a b n))] := by
  refine FunO.bodyL tbl_ok Tryz.func176 rfl (by kernel_rfl) rfl rfl rfl ?_
  have hlen := swpN_len l a b
  unfold arRw
  repeat' (first | refine X.loc ?_ | refine nx ?_ | refine X.cdT ?_ | refine X.cdF ?_ | refine cb ?_ ?_ | (refine cc ?_ ?_ <;> intro hcond) | refine rb ?_ | refine nd ?_ | refine dk ?_ | fail)
  refine WP.loop (ι := Nat) (fun i => ⟨[(0, .osl 1000), (1, .fv (.int .i64 a)), (2, .fv (.int .i64 b)), (3, .fv (.int .i64 n)), (10, .fv (.int .i64 i))], [(1000, .row 41 9 (swpN l a b i).length (((swpN l a b i).flatMap encAr).map .fv))]⟩) (fun i => i ≤ n) (fun i => n - i) 0 (by omega) ?_ ?_
  · try dsimp only
    rw [show swpN l a b 0 = l from rfl]
    exact tq [] []
  rintro i hi
  try dsimp only
  by_cases hlt : i < n
  case neg =>
    obtain rfl : i = n := by omega
    generalize swpN l a b i = R at *
    repeat' (first | refine X.loc ?_ | refine nx ?_ | refine X.cdT ?_ | refine X.cdF ?_ | refine cb ?_ ?_ | (refine cc ?_ ?_ <;> intro hcond) | refine rb ?_ | refine nd ?_ | refine dk ?_ | fail)
    exact rq ⟨[], [(1000, .row 41 9 R.length ((R.flatMap encAr).map .fv))]⟩ (tq [] [])
  case pos =>
    have h1 := hlen i
    have hs : swpN l a b (i + 1) = swp (swpN l a b i) (a + i) (b + i) := rfl
    generalize swpN l a b i = R at *
    obtain ⟨x, hx⟩ : ∃ x, R[a + i]? = some x := ⟨_, List.getElem?_eq_getElem (by omega)⟩
    obtain ⟨y, hy⟩ : ∃ y, R[b + i]? = some y := ⟨_, List.getElem?_eq_getElem (by omega)⟩
    rw [swp, hx, hy] at hs
    try dsimp only at hs
    have s1 := setAl (l := R) (i := a + i) (off := ((a : Int) + (i : Int)).toNat * 9) (x := y) (by omega) (by omega)
    have s2 := setAl (l := R.set (a + i) y) (i := b + i) (off := ((b : Int) + (i : Int)).toNat * 9) (x := x) (by omega) (by rw [List.length_set]; omega)
    repeat' (first | (apply X.loE; (· exact aR); (· first | (exact .eff (.loadO rfl rfl (readAl (i := a + i) (by omega) hx))) | (exact .eff (.loadO rfl rfl (readAl (i := b + i) (by omega) hy))))) | refine X.loc ?_ | (apply X.stRE; (· exact aS); (· exact s1); (· exact aE)) | (apply X.stRE; (· exact aS); (· exact s2); (· exact aE)) | refine nx ?_ | refine X.cdT ?_ | refine X.cdF ?_ | refine cb ?_ ?_ | (refine cc ?_ ?_ <;> intro hcond) | (apply X.gsE; (· exact aR); (· exact aV); (· exact aW); (· intro hc; first | (exact .eff (.loadO rfl rfl (readAl (i := a + i) (by omega) hx))) | (exact .eff (.loadO rfl rfl (readAl (i := b + i) (by omega) hy)))); (· exact aR)) | refine rb ?_ | refine nd ?_ | refine dk ?_ | fail)
    refine ⟨i + 1, by omega, by omega, ?_⟩
    try dsimp only
    rw [hs]
    refine St.to [] [] rfl rfl ?_ ?_ <;> (repeat' (first | exact tA | refine t1 ?_ | exact tB | refine t2 ?_ ?_ | refine t3 ?_ | refine t4 ?_ ?_ | refine .ofEq ?_ | refine OB.To.cut rfl rfl ?_ ?_ ?_ ?_ | refine OB.To.box rfl rfl ?_ | refine ⟨⟨_, rfl, ?_⟩, ?_⟩ | refine ⟨?_, ?_⟩ | fail))
    all_goals first | omega | (simp; done)
def ltA (x y : Option Ar) : Bool := match x, y with
  | some x, some y => decide (cmpA x y < 0)
  | _, _ => false
def bub (a : Nat) : Nat → List Ar → List Ar
  | 0, l => l
  | j + 1, l => if a < j + 1 ∧ ltA l[j + 1]? l[j]? = true then bub a j (swp l (j + 1) j) else l
theorem bub_len (a : Nat) : ∀ (j : Nat) (l : List Ar), (bub a j l).length = l.length
  | 0, _ => rfl
  | j + 1, l => by
    rw [bub]
    split
    · rw [bub_len a j, swp_len]
    · rfl
def insN (l : List Ar) (a : Nat) : Nat → List Ar
  | 0 => l
  | k + 1 => bub a (a + 1 + k) (insN l a k)
theorem insN_len (l : List Ar) (a : Nat) : ∀ k, (insN l a k).length = l.length
  | 0 => rfl
  | k + 1 => by rw [insN, bub_len, insN_len l a k]
theorem swp_mem {l : List Ar} {i j : Nat} {x : Ar} (h : x ∈ swp l i j) : x ∈ l := by
  unfold swp at h
  split at h
  · rename_i a b h1 h2
    rcases List.mem_or_eq_of_mem_set h with h | rfl
    · rcases List.mem_or_eq_of_mem_set h with h | rfl
      · exact h
      · exact List.mem_of_getElem? h2
    · exact List.mem_of_getElem? h1
  · exact h
theorem bub_mem {a : Nat} : ∀ {j : Nat} {l : List Ar} {x : Ar}, x ∈ bub a j l → x ∈ l
  | 0, _, _, h => h
  | j + 1, l, x, h => by
    rw [bub] at h
    split at h
    · exact swp_mem (bub_mem h)
    · exact h
theorem insN_mem {l : List Ar} {a : Nat} {x : Ar} : ∀ {k : Nat}, x ∈ insN l a k → x ∈ l
  | 0, h => h
  | k + 1, h => insN_mem (bub_mem h)
set_option maxHeartbeats 8000000 in
theorem insertion_T (l : List Ar) (a b : Nat) (hr : ∀ x ∈ l, ArR x) (ha : a ≤ b) (hb : b ≤ l.length) (hl : l.length ≤ 40) : FunO Tryz.prog 143 [.osl 1000, .fv (.int .i64 a), .fv (.int .i64 b), .fn 78 []] [(1000, arRw l)] (.tup []) [(1000, arRw (insN l a (b - (a + 1))))] := by
  refine FunO.bodyL tbl_ok Tryz.func143 rfl (by kernel_rfl) rfl rfl rfl ?_
  have hlen := insN_len l a
  have hmem := fun k x => @insN_mem l a x k
  unfold arRw
  repeat' (first | refine X.loc ?_ | refine nx ?_ | refine X.cdT ?_ | refine X.cdF ?_ | refine cb ?_ ?_ | (refine cc ?_ ?_ <;> intro hcond) | refine rb ?_ | refine nd ?_ | refine dk ?_ | fail)
  refine WP.loop (ι := Nat) (fun k => ⟨[(0, .osl 1000), (1, .fv (.int .i64 a)), (2, .fv (.int .i64 b)), (3, .fn 78 []), (8, .fv (.int .i64 (a + 1 + k : Nat)))], [(1000, .row 41 9 (insN l a k).length (((insN l a k).flatMap encAr).map .fv))]⟩) (fun k => k ≤ b - (a + 1)) (fun k => b - (a + 1) - k) 0 (by omega) ?_ ?_
  · try dsimp only
    rw [show insN l a 0 = l from rfl, show ((a + 1 + 0 : Nat) : Int) = (a : Int) + 1 by omega]
    exact tq [] []
  rintro k hk
  try dsimp only
  rw [show ((a + 1 + k : Nat) : Int) = (a : Int) + 1 + (k : Int) by omega]
  by_cases hlt : a + 1 + k < b
  case neg =>
    obtain rfl : k = b - (a + 1) := by omega
    generalize insN l a (b - (a + 1)) = R at *
    repeat' (first | refine X.loc ?_ | refine nx ?_ | refine X.cdT ?_ | refine X.cdF ?_ | refine cb ?_ ?_ | (refine cc ?_ ?_ <;> intro hcond) | refine rb ?_ | refine nd ?_ | refine dk ?_ | fail)
    exact rq ⟨[], [(1000, .row 41 9 R.length ((R.flatMap encAr).map .fv))]⟩ (tq [] [])
  case pos =>
    have h1 := hlen k
    have h2 := hmem k
    have hs : insN l a (k + 1) = bub a (a + 1 + k) (insN l a k) := rfl
    have hT := hlen (k + 1)
    rw [hs] at hT
    generalize insN l a k = R at *
    generalize hTT : bub a (a + 1 + k) R = T at *
    repeat' (first | refine X.loc ?_ | refine nx ?_ | refine X.cdT ?_ | refine X.cdF ?_ | refine cb ?_ ?_ | (refine cc ?_ ?_ <;> intro hcond) | refine rb ?_ | refine nd ?_ | refine dk ?_ | fail)
    refine WP.loop (ι := Nat × List Ar) (fun q => ⟨[(0, .osl 1000), (1, .fv (.int .i64 a)), (2, .fv (.int .i64 b)), (3, .fn 78 []), (8, .fv (.int .i64 ((a : Int) + 1 + (k : Int)))), (9, .fv (.int .i64 q.1))], [(1000, .row 41 9 q.2.length ((q.2.flatMap encAr).map .fv))]⟩) (fun q => q.1 ≤ a + 1 + k ∧ q.2.length = l.length ∧ (∀ x ∈ q.2, ArR x) ∧ bub a q.1 q.2 = T) (fun q => q.1) (a + 1 + k, R) ⟨by dsimp only; omega, h1, fun x hx => hr x (h2 x hx), hTT⟩ ?_ ?_
    · try dsimp only
      rw [show ((a + 1 + k : Nat) : Int) = (a : Int) + 1 + (k : Int) by omega]
      exact tq [] []
    rintro ⟨j, Q⟩ ⟨g1, g2, g3, g4⟩
    try dsimp only at g1 g2 g3 g4
    try dsimp only
    by_cases hja : a < j
    case neg =>
      have e : Q = T := by
        cases j with
        | zero => exact g4
        | succ j => rw [bub, if_neg (by omega)] at g4; exact g4
      subst e
      repeat' (first | refine X.loc ?_ | (refine X.gst (r := .fv (.bool false)) ?_ (hE := fun hc => absurd hc (by simp only [decide_eq_true_eq]; omega))) | refine nx ?_ | refine X.cdT ?_ | refine X.cdF ?_ | refine cb ?_ ?_ | (refine cc ?_ ?_ <;> intro hcond) | refine rb ?_ | refine nd ?_ | refine dk ?_ | fail)
      refine ⟨k + 1, by omega, by omega, ?_⟩
      try dsimp only
      rw [hs, show ((a + 1 + (k + 1) : Nat) : Int) = (a : Int) + 1 + (k : Int) + 1 by omega]
      exact tq [] []
    case pos =>
      obtain ⟨j, rfl⟩ : ∃ i, j = i + 1 := ⟨j - 1, by omega⟩
      obtain ⟨x, hx⟩ : ∃ x, Q[j + 1]? = some x := ⟨_, List.getElem?_eq_getElem (by omega)⟩
      obtain ⟨y, hy⟩ : ∃ y, Q[j]? = some y := ⟨_, List.getElem?_eq_getElem (by omega)⟩
      have hc := cmpA_T x y (g3 x (List.mem_of_getElem? hx)) (g3 y (List.mem_of_getElem? hy))
      rw [bub, hx, hy] at g4
      have hlt2 : ltA (some x) (some y) = decide (cmpA x y < 0) := rfl
      rw [hlt2] at g4
      have hsw : swp Q (j + 1) j = (Q.set (j + 1) y).set j x := by rw [swp, hx, hy]
      have hsl := swp_len Q (j + 1) j
      have hsm := fun z => @swp_mem Q (j + 1) j z
      generalize cmpA x y = o at *
      rw [show ((j + 1 : Nat) : Int) = (j : Int) + 1 by omega]
      by_cases ho : o < 0
      · rw [if_pos ⟨hja, decide_eq_true ho⟩] at g4
        have s1 := setAl (l := Q) (i := j + 1) (off := ((j : Int) + 1).toNat * 9) (x := y) (by omega) (by omega)
        have s2 := setAl (l := Q.set (j + 1) y) (i := j) (off := ((j : Int) + 1 - 1).toNat * 9) (x := x) (by omega) (by rw [List.length_set]; omega)
        rw [← hsw] at s2
        generalize swp Q (j + 1) j = Q2 at *
        repeat' (first | (apply X.loE; (· exact aR); (· first | (exact .eff (.loadO rfl rfl (readAl (i := j + 1) (by omega) hx))) | (exact .eff (.loadO rfl rfl (readAl (i := j) (by omega) hy))))) | refine X.loc ?_ | (apply X.grd; (· exact aR); (· exact decide_eq_true (by omega)); (· first |(refine X.loc ?_; exact X.nil ⟨rfl, rfl⟩) |(apply X.loE; (· exact aR); (· first |exact .eff (.loadO rfl rfl (readAl (i := j + 1) (by omega) hx)) |exact .eff (.loadO rfl rfl (readAl (i := j) (by omega) hy)) |exact .callL rfl rfl rfl hc rfl); exact X.nil ⟨rfl, rfl⟩)); (· rfl)) | (apply X.stRE; (· exact aS); (· exact s1); (· exact aE)) | (apply X.stRE; (· exact aS); (· exact s2); (· exact aE)) | refine nx ?_ | refine X.cdT ?_ | refine X.cdF ?_ | refine cb ?_ ?_ | (refine cc ?_ ?_ <;> intro hcond) | (apply X.gsE; (· exact aR); (· exact aV); (· exact aW); (· intro hc; first | (exact .eff (.loadO rfl rfl (readAl (i := j + 1) (by omega) hx))) | (exact .eff (.loadO rfl rfl (readAl (i := j) (by omega) hy)))); (· exact aR)) | refine rb ?_ | refine nd ?_ | refine dk ?_ | fail)
        refine ⟨(j, Q2), ⟨by dsimp only; omega, by dsimp only; omega, fun z hz => g3 z (hsm z hz), g4⟩, by dsimp only; omega, ?_⟩
        try dsimp only
        rw [show (j : Int) = (j : Int) + 1 - 1 by omega]
        refine St.to [] [] rfl rfl ?_ ?_ <;> (repeat' (first | exact tA | refine t1 ?_ | exact tB | refine t2 ?_ ?_ | refine t3 ?_ | refine t4 ?_ ?_ | refine .ofEq ?_ | refine OB.To.cut rfl rfl ?_ ?_ ?_ ?_ | refine OB.To.box rfl rfl ?_ | refine ⟨⟨_, rfl, ?_⟩, ?_⟩ | refine ⟨?_, ?_⟩ | fail))
        all_goals first | omega | (simp; done)
      · rw [if_neg (fun h => ho (of_decide_eq_true h.2))] at g4
        subst g4
        repeat' (first | refine X.loc ?_ | (apply X.grd; (· exact aR); (· exact decide_eq_true (by omega)); (· first |(refine X.loc ?_; exact X.nil ⟨rfl, rfl⟩) |(apply X.loE; (· exact aR); (· first |exact .eff (.loadO rfl rfl (readAl (i := j + 1) (by omega) hx)) |exact .eff (.loadO rfl rfl (readAl (i := j) (by omega) hy)) |exact .callL rfl rfl rfl hc rfl); exact X.nil ⟨rfl, rfl⟩)); (· rfl)) | refine nx ?_ | refine X.cdT ?_ | refine X.cdF ?_ | refine cb ?_ ?_ | (refine cc ?_ ?_ <;> intro hcond) | refine rb ?_ | refine nd ?_ | refine dk ?_ | fail)
        refine ⟨k + 1, by omega, by omega, ?_⟩
        try dsimp only
        rw [hs, show ((a + 1 + (k + 1) : Nat) : Int) = (a : Int) + 1 + (k : Int) + 1 by omega]
        exact tq [] []
end Go.Proofs.YtmidechdlbcepaaGreat.AS
namespace Go.Proofs.YtmidechdlbcepaaGreat.AS
open Go.RowKit
theorem swp_two (Q D : List Ar) (x y : Ar) : swp (Q ++ y :: x :: D) (Q.length + 1) Q.length = Q ++ x :: y :: D := by
  have h1 : (Q ++ y :: x :: D)[Q.length + 1]? = some x := by rw [List.getElem?_append_right (by omega)]; simp
  have h2 : (Q ++ y :: x :: D)[Q.length]? = some y := by rw [List.getElem?_append_right (by omega)]; simp
  rw [swp, h1, h2]
  dsimp only
  rw [List.set_append_right _ _ (by omega), List.set_append_right _ _ (by omega)]
  simp
theorem StabA.snoc {R S : List Ar} {x y : Ar} (h : StabA R (S ++ [x])) (hy : ∀ z ∈ S, y.prio ≤ z.prio) (hxy : y.prio < x.prio) : StabA (R ++ [y]) (S ++ [y] ++ [x]) := by
  refine ⟨List.pairwise_append.2 ⟨h.ord, List.pairwise_singleton _ _, fun z hz w hw => ?_⟩, fun p => ?_⟩
  · obtain rfl := List.mem_singleton.1 hw
    rw [h.mem, List.mem_append] at hz
    rcases hz with hz | hz
    · exact hy z hz
    · obtain rfl := List.mem_singleton.1 hz
      omega
  · rw [List.filter_append, h.flt, List.filter_append, List.filter_append, List.filter_append, List.append_assoc, List.append_assoc]
    congr 1
    by_cases hx : x.prio = p
    · have : ¬ y.prio = p := by omega
      simp [hx, this]
    · simp [hx]
theorem bub_is (P : List Ar) (x : Ar) : ∀ (n : Nat) (S D : List Ar), S.length = n → S.Pairwise (fun x y => y.prio ≤ x.prio) → ∃ R, bub P.length (P.length + n) (P ++ S ++ x :: D) = P ++ R ++ D ∧ StabA R (S ++ [x])
  | 0, S, D, hn, _ => by
    obtain rfl := List.eq_nil_of_length_eq_zero hn
    refine ⟨[x], ?_, List.pairwise_singleton _ _, fun p => by simp⟩
    have e : bub P.length (P.length + 0) (P ++ [] ++ x :: D) = P ++ [] ++ x :: D := by
      cases h : P.length with
      | zero => rfl
      | succ k => rw [Nat.add_zero, bub, if_neg (by omega)]
    rw [e]
    simp
  | n + 1, S, D, hn, hS => by
    obtain ⟨S', y, rfl⟩ : ∃ S' y, S = S' ++ [y] := by
      rcases List.eq_nil_or_concat S with rfl | ⟨S', y, h⟩
      · simp at hn
      · exact ⟨S', y, by simpa using h⟩
    have hn' : S'.length = n := by simpa using hn
    obtain ⟨h1, _, h2⟩ := List.pairwise_append.1 hS
    have hl : P ++ (S' ++ [y]) ++ x :: D = (P ++ S') ++ y :: x :: D := by simp
    have hQ : (P ++ S').length = P.length + n := by simp [hn']
    have e1 : ((P ++ S') ++ y :: x :: D)[P.length + n + 1]? = some x := by rw [List.getElem?_append_right (by omega), hQ]; simp
    have e2 : ((P ++ S') ++ y :: x :: D)[P.length + n]? = some y := by rw [List.getElem?_append_right (by omega), hQ]; simp
    rw [hl, ← Nat.add_assoc, bub, e1, e2]
    by_cases hxy : y.prio < x.prio
    · rw [if_pos ⟨by omega, decide_eq_true (show cmpA x y < 0 by unfold cmpA; omega)⟩, ← hQ, swp_two, hQ]
      obtain ⟨R, r1, r2⟩ := bub_is P x n S' (y :: D) hn' h1
      refine ⟨R ++ [y], ?_, r2.snoc (fun z hz => h2 z hz y (by simp)) hxy⟩
      rw [r1]
      simp
    · rw [if_neg (fun h => hxy (by have h3 : cmpA x y < 0 := of_decide_eq_true h.2; unfold cmpA at h3; omega))]
      refine ⟨S' ++ [y] ++ [x], by simp, ?_, fun _ => rfl⟩
      refine List.pairwise_append.2 ⟨hS, List.pairwise_singleton _ _, fun z hz w hw => ?_⟩
      obtain rfl := List.mem_singleton.1 hw
      rcases List.mem_append.1 hz with hz | hz
      · have := h2 z hz y (by simp)
        omega
      · obtain rfl := List.mem_singleton.1 hz
        omega
theorem StabA.trans {R S T : List Ar} (h : StabA R (S ++ T)) {U : List Ar} (hS : StabA S U) : StabA R (U ++ T) := ⟨h.ord, fun p => by rw [h.flt, List.filter_append, List.filter_append, hS.flt]⟩
theorem insN_is (l : List Ar) (a : Nat) : ∀ k, a + 1 + k ≤ l.length → ∃ R, insN l a k = l.take a ++ R ++ l.drop (a + 1 + k) ∧ StabA R ((l.take (a + 1 + k)).drop a)
  | 0, h => by
    obtain ⟨x, hx⟩ : ∃ x, l[a]? = some x := ⟨_, List.getElem?_eq_getElem (by omega)⟩
    refine ⟨(l.take (a + 1)).drop a, ?_, ?_, fun _ => rfl⟩
    · rw [insN]
      have e : l.take a = (l.take (a + 1)).take a := by rw [List.take_take, Nat.min_eq_left (by omega)]
      rw [e, List.take_append_drop, Nat.add_zero, List.take_append_drop]
    · rw [List.take_add_one, hx, List.drop_append_of_le_length (by rw [List.length_take]; omega), List.drop_eq_nil_of_le (by rw [List.length_take]; omega)]
      simp
  | k + 1, h => by
    obtain ⟨S, e, hS⟩ := insN_is l a k (by omega)
    obtain ⟨x, hx⟩ : ∃ x, l[a + 1 + k]? = some x := ⟨_, List.getElem?_eq_getElem (by omega)⟩
    have hd : l.drop (a + 1 + k) = x :: l.drop (a + 1 + k + 1) := by rw [List.drop_eq_getElem_cons (by omega), (List.getElem?_eq_some_iff.1 hx).2]
    have hPl : (l.take a).length = a := by rw [List.length_take]; omega
    have hSl : S.length = 1 + k := by
      have h1 := congrArg List.length e
      rw [insN_len, List.length_append, List.length_append, hPl, List.length_drop] at h1
      omega
    obtain ⟨R, r1, r2⟩ := bub_is (l.take a) x (1 + k) S (l.drop (a + 1 + k + 1)) hSl hS.ord
    refine ⟨R, ?_, ?_⟩
    · rw [insN, e, hd]
      rw [hPl, ← Nat.add_assoc] at r1
      exact r1
    · have h3 := r2.trans hS
      have e4 : (l.take (a + 1 + (k + 1))).drop a = (l.take (a + 1 + k)).drop a ++ [x] := by
        rw [show a + 1 + (k + 1) = a + 1 + k + 1 by omega, List.take_add_one, hx, List.drop_append_of_le_length (by rw [List.length_take]; omega)]
        rfl
      rw [e4]
      exact h3
theorem insN_sort (l : List Ar) {a b : Nat} (ha : a ≤ b) (hb : b ≤ l.length) : insN l a (b - (a + 1)) = l.take a ++ sortA ((l.take b).drop a) ++ l.drop b := by
  by_cases h : a = b
  · subst h
    rw [show a - (a + 1) = 0 by omega, insN, List.drop_eq_nil_of_le (by rw [List.length_take]; omega)]
    have : sortA [] = [] := by simp [sortA]
    rw [this]
    simp
  · obtain ⟨R, e, hR⟩ := insN_is l a (b - (a + 1)) (by omega)
    rw [show a + 1 + (b - (a + 1)) = b by omega] at e hR
    rw [e, hR.is]
end Go.Proofs.YtmidechdlbcepaaGreat.AS
namespace Go.Proofs.YtmidechdlbcepaaGreat.AS
open Go.RowKit
set_option maxRecDepth 100000
def rotL (l : List Ar) (m i j : Nat) : List Ar :=
  if h : i = j ∨ i = 0 ∨ j = 0 then swpN l (m - i) m i
  else if j < i then rotL (swpN l (m - i) m j) m (i - j) j
  else rotL (swpN l (m - i) (m + j - i) i) m i (j - i)
termination_by i + j
decreasing_by all_goals omega
theorem rotL_len (l : List Ar) (m i j : Nat) : (rotL l m i j).length = l.length := by
  unfold rotL
  split
  · exact swpN_len ..
  · split
    · rw [rotL_len, swpN_len]
    · rw [rotL_len, swpN_len]
termination_by i + j
decreasing_by all_goals omega
set_option maxHeartbeats 4000000 in
theorem rotate_T (l : List Ar) (a m b : Nat) (ha : a < m) (hm : m < b) (hb : b ≤ l.length) (hl : l.length ≤ 40) : FunO Tryz.prog 159 [.osl 1000, .fv (.int .i64 a), .fv (.int .i64 m), .fv (.int .i64 b), .fn 78 []] [(1000, arRw l)] (.tup []) [(1000, arRw (rotL l m (m - a) (b - m)))] := by
  refine FunO.bodyL tbl_ok Tryz.func159 rfl (by kernel_rfl) rfl rfl rfl ?_
  have hTl := rotL_len l m (m - a) (b - m)
  generalize hT : rotL l m (m - a) (b - m) = T at *
  have sw := fun R a b n h1 h2 h3 => swapRange_T R a b n h1 h2 h3
  unfold arRw at sw
  unfold arRw
  repeat' (first | refine X.loc ?_ | refine nx ?_ | refine X.cdT ?_ | refine X.cdF ?_ | refine cb ?_ ?_ | (refine cc ?_ ?_ <;> intro hcond) | refine rb ?_ | refine nd ?_ | refine dk ?_ | fail)
  refine WP.loop (ι := Nat × Nat × List Ar) (fun q => ⟨[(0, .osl 1000), (2, .fv (.int .i64 m)), (4, .fn 78 []), (10, .fv (.int .i64 q.1)), (11, .fv (.int .i64 q.2.1))], [(1000, .row 41 9 q.2.2.length ((q.2.2.flatMap encAr).map .fv))]⟩) (fun q => 0 < q.1 ∧ 0 < q.2.1 ∧ q.1 ≤ m ∧ m + q.2.1 ≤ q.2.2.length ∧ q.2.2.length = l.length ∧ rotL q.2.2 m q.1 q.2.1 = T) (fun q => q.1 + q.2.1) (m - a, b - m, l) ⟨by dsimp only; omega, by dsimp only; omega, by dsimp only; omega, by dsimp only; omega, rfl, hT⟩ ?_ ?_
  · try dsimp only
    rw [show ((m - a : Nat) : Int) = (m : Int) - (a : Int) by omega, show ((b - m : Nat) : Int) = (b : Int) - (m : Int) by omega]
    exact tq [] []
  rintro ⟨i, j, R⟩ ⟨g1, g2, g3, g4, g5, g6⟩
  try dsimp only at g1 g2 g3 g4 g5 g6
  try dsimp only
  rw [rotL] at g6
  by_cases hij : i = j
  · subst hij
    rw [dif_pos (.inl rfl)] at g6
    have u1 := sw R (m - i) m i (by omega) (by omega) (by omega)
    rw [g6, show ((m - i : Nat) : Int) = (m : Int) - (i : Int) by omega] at u1
    clear g6 hT
    repeat' (first | refine X.loc ?_ | refine nx ?_ | refine X.cdT ?_ | refine X.cdF ?_ | refine cb ?_ ?_ | (refine cc ?_ ?_ <;> intro hcond) | refine rb ?_ | refine X.c0 (u1) ?_ | refine nd ?_ | refine dk ?_ | fail)
    exact rq ⟨[], [(1000, .row 41 9 T.length ((T.flatMap encAr).map .fv))]⟩ (tq [] [])
  · rw [dif_neg (by omega)] at g6
    by_cases hlt : j < i
    · rw [if_pos hlt] at g6
      have u1 := sw R (m - i) m j (by omega) (by omega) (by omega)
      have hl1 := swpN_len R (m - i) m j
      generalize swpN R (m - i) m j = R2 at *
      rw [show ((m - i : Nat) : Int) = (m : Int) - (i : Int) by omega] at u1
      repeat' (first | refine X.loc ?_ | refine nx ?_ | refine X.cdT ?_ | refine X.cdF ?_ | refine cb ?_ ?_ | (refine cc ?_ ?_ <;> intro hcond) | refine rb ?_ | refine X.c0 (u1) ?_ | refine nd ?_ | refine dk ?_ | fail)
      refine ⟨(i - j, j, R2), ⟨by dsimp only; omega, g2, by dsimp only; omega, by dsimp only; omega, by dsimp only; omega, g6⟩, by dsimp only; omega, ?_⟩
      try dsimp only
      rw [show ((i - j : Nat) : Int) = (i : Int) - (j : Int) by omega]
      exact tq [] []
    · rw [if_neg hlt] at g6
      have u1 := sw R (m - i) (m + j - i) i (by omega) (by omega) (by omega)
      have hl1 := swpN_len R (m - i) (m + j - i) i
      generalize swpN R (m - i) (m + j - i) i = R2 at *
      rw [show ((m - i : Nat) : Int) = (m : Int) - (i : Int) by omega, show ((m + j - i : Nat) : Int) = (m : Int) + (j : Int) - (i : Int) by omega] at u1
      repeat' (first | refine X.loc ?_ | refine nx ?_ | refine X.cdT ?_ | refine X.cdF ?_ | refine cb ?_ ?_ | (refine cc ?_ ?_ <;> intro hcond) | refine rb ?_ | refine X.c0 (u1) ?_ | refine nd ?_ | refine dk ?_ | fail)
      refine ⟨(i, j - i, R2), ⟨g1, by dsimp only; omega, g3, by dsimp only; omega, by dsimp only; omega, g6⟩, by dsimp only; omega, ?_⟩
      try dsimp only
      rw [show ((j - i : Nat) : Int) = (j : Int) - (i : Int) by omega]
      exact tq [] []
end Go.Proofs.YtmidechdlbcepaaGreat.AS
namespace Go.Proofs.YtmidechdlbcepaaGreat.AS
open Go.RowKit
theorem swp_gen (U V W : List Ar) (x y : Ar) : swp (U ++ x :: (V ++ y :: W)) U.length (U.length + 1 + V.length) = U ++ y :: (V ++ x :: W) := by
  have h1 : (U ++ x :: (V ++ y :: W))[U.length]? = some x := by rw [List.getElem?_append_right (by omega)]; simp
  have h2 : (U ++ x :: (V ++ y :: W))[U.length + 1 + V.length]? = some y := by
    rw [List.getElem?_append_right (by omega), show U.length + 1 + V.length - U.length = V.length + 1 by omega, List.getElem?_cons_succ, List.getElem?_append_right (by omega)]
    simp
  rw [swp, h1, h2]
  dsimp only
  rw [List.set_append_right _ _ (by omega), Nat.sub_self, List.set_cons_zero, List.set_append_right _ _ (by omega), show U.length + 1 + V.length - U.length = V.length + 1 by omega, List.set_cons_succ, List.set_append_right _ _ (by omega), Nat.sub_self, List.set_cons_zero]
theorem swpN_is (P X M Y Q : List Ar) (h : X.length = Y.length) : ∀ k, k ≤ X.length → swpN (P ++ X ++ M ++ Y ++ Q) P.length (P.length + X.length + M.length) k = P ++ Y.take k ++ X.drop k ++ M ++ X.take k ++ Y.drop k ++ Q
  | 0, _ => by simp [swpN]
  | k + 1, hk => by
    have ih := swpN_is P X M Y Q h k (by omega)
    obtain ⟨x, hx⟩ : ∃ x, X[k]? = some x := ⟨_, List.getElem?_eq_getElem (by omega)⟩
    obtain ⟨y, hy⟩ : ∃ y, Y[k]? = some y := ⟨_, List.getElem?_eq_getElem (by omega)⟩
    have dx : X.drop k = x :: X.drop (k + 1) := by rw [List.drop_eq_getElem_cons (by omega), (List.getElem?_eq_some_iff.1 hx).2]
    have dy : Y.drop k = y :: Y.drop (k + 1) := by rw [List.drop_eq_getElem_cons (by omega), (List.getElem?_eq_some_iff.1 hy).2]
    have tx : X.take (k + 1) = X.take k ++ [x] := by rw [List.take_add_one, hx]; rfl
    have ty : Y.take (k + 1) = Y.take k ++ [y] := by rw [List.take_add_one, hy]; rfl
    rw [swpN, ih, dx, dy, tx, ty]
    have e : P ++ Y.take k ++ x :: X.drop (k + 1) ++ M ++ X.take k ++ y :: Y.drop (k + 1) ++ Q = (P ++ Y.take k) ++ x :: ((X.drop (k + 1) ++ M ++ X.take k) ++ y :: (Y.drop (k + 1) ++ Q)) := by simp
    have l1 : P.length + k = (P ++ Y.take k).length := by rw [List.length_append, List.length_take]; omega
    have l2 : P.length + X.length + M.length + k = (P ++ Y.take k).length + 1 + (X.drop (k + 1) ++ M ++ X.take k).length := by
      simp only [List.length_append, List.length_take, List.length_drop]
      omega
    rw [e, l1, l2, swp_gen]
    simp
theorem swpN_all (P X M Y Q : List Ar) (h : X.length = Y.length) : swpN (P ++ X ++ M ++ Y ++ Q) P.length (P.length + X.length + M.length) X.length = P ++ Y ++ M ++ X ++ Q := by
  rw [swpN_is P X M Y Q h X.length (Nat.le_refl _), List.take_length, List.drop_length, h, List.take_length, List.drop_length]
  simp
theorem rotL_is : ∀ (n : Nat) (P X Y Q : List Ar), X.length + Y.length = n → 0 < X.length → 0 < Y.length → rotL (P ++ X ++ Y ++ Q) (P.length + X.length) X.length Y.length = P ++ Y ++ X ++ Q := by
  intro n
  induction n using Nat.strongRecOn with
  | _ n ih =>
    intro P X Y Q hn h1 h2
    rw [rotL]
    by_cases he : X.length = Y.length
    · rw [dif_pos (.inl he), show P.length + X.length - X.length = P.length by omega]
      have := swpN_all P X [] Y Q he
      simpa using this
    · rw [dif_neg (by omega)]
      by_cases hlt : Y.length < X.length
      · rw [if_pos hlt, show P.length + X.length - X.length = P.length by omega]
        have e1 : X = X.take Y.length ++ X.drop Y.length := (List.take_append_drop _ _).symm
        have l1 : (X.take Y.length).length = Y.length := by rw [List.length_take]; omega
        have l2 : (X.drop Y.length).length = X.length - Y.length := List.length_drop
        generalize X.take Y.length = X1 at *
        generalize X.drop Y.length = X2 at *
        have hs := swpN_all P X1 X2 Y Q l1
        have hx : X.length = X1.length + X2.length := by rw [e1, List.length_append]
        have e2 : P ++ X ++ Y ++ Q = P ++ X1 ++ X2 ++ Y ++ Q := by rw [e1]; simp
        rw [e2, show P.length + X.length = P.length + X1.length + X2.length by omega, ← l1, hs]
        have hr := ih (X2.length + X1.length) (by omega) (P ++ Y) X2 X1 Q rfl (by omega) (by omega)
        rw [show X.length - X1.length = X2.length by omega, show P.length + X1.length + X2.length = (P ++ Y).length + X2.length by rw [List.length_append]; omega, hr, e1]
        simp
      · rw [if_neg hlt, show P.length + X.length - X.length = P.length by omega]
        have e1 : Y = Y.take (Y.length - X.length) ++ Y.drop (Y.length - X.length) := (List.take_append_drop _ _).symm
        have l1 : (Y.take (Y.length - X.length)).length = Y.length - X.length := by rw [List.length_take]; omega
        have l2 : (Y.drop (Y.length - X.length)).length = X.length := by rw [List.length_drop]; omega
        generalize Y.take (Y.length - X.length) = Y1 at *
        generalize Y.drop (Y.length - X.length) = Y2 at *
        have hs := swpN_all P X Y1 Y2 Q l2.symm
        have hy : Y.length = Y1.length + Y2.length := by rw [e1, List.length_append]
        have e2 : P ++ X ++ Y ++ Q = P ++ X ++ Y1 ++ Y2 ++ Q := by rw [e1]; simp
        rw [e2, show P.length + X.length + Y.length - X.length = P.length + X.length + Y1.length by omega, hs]
        have hr := ih (Y2.length + Y1.length) (by omega) P Y2 Y1 (X ++ Q) rfl (by omega) (by omega)
        have e3 : P ++ Y2 ++ Y1 ++ X ++ Q = P ++ Y2 ++ Y1 ++ (X ++ Q) := by simp
        rw [e3, ← l1, show P.length + X.length = P.length + Y2.length by omega, ← l2, hr, e1]
        simp
end Go.Proofs.YtmidechdlbcepaaGreat.AS
namespace Go.Proofs.YtmidechdlbcepaaGreat.AS
open Go.RowKit
set_option maxRecDepth 100000
theorem U64.wrap {a : Int} (h1 : 0 ≤ a) (h2 : a ≤ 9223372036854775807) : IntKind.u64.wrap a = a := by
  simp [IntKind.wrap, IntKind.signed, IntKind.bits]
  omega
theorem ord_at {l : List Ar} {a b i j : Nat} (h : ((l.take b).drop a).Pairwise fun x y => y.prio ≤ x.prio) (hi : a ≤ i) (hij : i ≤ j) (hj : j < b) {x y : Ar} (hx : l[i]? = some x) (hy : l[j]? = some y) : y.prio ≤ x.prio := by
  rcases Nat.lt_or_ge i j with hlt | hge
  · have e1 : ((l.take b).drop a)[i - a]? = some x := by rw [List.getElem?_drop, show a + (i - a) = i by omega, List.getElem?_take_of_lt (by omega), hx]
    have e2 : ((l.take b).drop a)[j - a]? = some y := by rw [List.getElem?_drop, show a + (j - a) = j by omega, List.getElem?_take_of_lt (by omega), hy]
    obtain ⟨g1, e1⟩ := List.getElem?_eq_some_iff.1 e1
    obtain ⟨g2, e2⟩ := List.getElem?_eq_some_iff.1 e2
    have := List.pairwise_iff_getElem.1 h (i - a) (j - a) g1 g2 (by omega)
    rwa [e1, e2] at this
  · obtain rfl : i = j := by omega
    rw [hx] at hy
    obtain rfl := Option.some.inj hy
    exact Int.le_refl _
def mvF (l : List Ar) (a : Nat) : Nat → List Ar
  | 0 => l
  | t + 1 => swp (mvF l a t) (a + t) (a + t + 1)
theorem mvF_len (l : List Ar) (a : Nat) : ∀ t, (mvF l a t).length = l.length
  | 0 => rfl
  | t + 1 => by rw [mvF, swp_len, mvF_len l a t]
theorem mvF_is (P : List Ar) (x : Ar) : ∀ (Y Q : List Ar), mvF (P ++ x :: (Y ++ Q)) P.length Y.length = P ++ Y ++ x :: Q := by
  have key : ∀ (t : Nat) (Y Q : List Ar), t ≤ Y.length → mvF (P ++ x :: (Y ++ Q)) P.length t = P ++ Y.take t ++ x :: (Y.drop t ++ Q) := by
    intro t
    induction t with
    | zero => intro Y Q _; simp [mvF]
    | succ t ih =>
      intro Y Q ht
      rw [mvF, ih Y Q (by omega)]
      obtain ⟨y, hy⟩ : ∃ y, Y[t]? = some y := ⟨_, List.getElem?_eq_getElem (by omega)⟩
      have dy : Y.drop t = y :: Y.drop (t + 1) := by rw [List.drop_eq_getElem_cons (by omega), (List.getElem?_eq_some_iff.1 hy).2]
      have ty : Y.take (t + 1) = Y.take t ++ [y] := by rw [List.take_add_one, hy]; rfl
      have l1 : P.length + t = (P ++ Y.take t).length := by rw [List.length_append, List.length_take]; omega
      rw [dy, ty, l1]
      have := swp_gen (P ++ Y.take t) [] (Y.drop (t + 1) ++ Q) x y
      simp only [List.length_nil, Nat.add_zero, List.nil_append] at this
      rw [List.cons_append, this]
      simp
  intro Y Q
  have := key Y.length Y Q (Nat.le_refl _)
  simpa using this
theorem sortA_id {l : List Ar} (h : l.Pairwise fun x y => y.prio ≤ x.prio) : sortA l = l := (StabA.is ⟨h, fun _ => rfl⟩).symm
theorem mv_sort {P B1 B2 Q : List Ar} {x : Ar} (hB : (B1 ++ B2).Pairwise fun x y => y.prio ≤ x.prio) (h1 : ∀ y ∈ B1, cmpA y x < 0) (h2 : ∀ y ∈ B2, ¬ cmpA y x < 0) : mvF (P ++ x :: (B1 ++ B2 ++ Q)) P.length B1.length = P ++ sortA (x :: (B1 ++ B2)) ++ Q := by
  obtain ⟨o1, o2, o3⟩ := List.pairwise_append.1 hB
  unfold cmpA at h1 h2
  have hs := sortA_split (A1 := []) (A2 := [x]) (B1 := B1) (B2 := B2) (by simp) (by simp) (fun y hy z hz => by obtain rfl := List.mem_singleton.1 hz; have := h1 y hy; omega) o3
  have hx : sortA ([x] ++ B2) = x :: B2 := sortA_id (List.pairwise_cons.2 ⟨fun y hy => by have := h2 y hy; omega, o2⟩)
  rw [List.nil_append, List.nil_append, sortA_id o1, hx] at hs
  rw [show x :: (B1 ++ B2) = [x] ++ (B1 ++ B2) from rfl, ← hs, List.append_assoc B1 B2 Q, mvF_is]
  simp
end Go.Proofs.YtmidechdlbcepaaGreat.AS