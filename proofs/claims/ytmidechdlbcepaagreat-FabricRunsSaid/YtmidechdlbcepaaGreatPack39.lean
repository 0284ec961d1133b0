import Derived.Test.YtmidechdlbcepaaGreatPack38
import Derived.Test.YtmidechdlbcepaaGreatPack35
import Derived.Test.YtmidechdlbcepaaGreatPack26
set_option linter.unusedSimpArgs false
set_option linter.unusedVariables false
namespace Go.Proofs.YtmidechdlbcepaaGreat
open Go.RowKit
set_option maxRecDepth 100000
theorem take_succ {α : Type} {l : List α} {k : Nat} {x : α} (hx : l[k]? = some x) : l.take (k + 1) = l.take k ++ [x] := by rw [List.take_add_one, hx]; rfl
theorem idxFl_T {F : Nat} {c : AV} (l : List Fl) (p : Fl → Bool) (hp : ∀ x ∈ l, Fun Tryz.prog F [.agg ((encFl x).map .fv), c] (.fv (.bool (p x)))) (hl : l.length < 9223372036854775807) : Fun Tryz.prog 152 [.fv (slOf encFl l), .fn F [c]] (.fv (.int .i64 (idxB p l))) := by
  refine Fun.body tbl_ok Tryz.func152 rfl (by kernel_rfl) rfl rfl rfl ?_
  repeat' (first | refine X.loc ?_ | refine nx ?_ | refine cb ?_ ?_ | (refine cc ?_ ?_ <;> intro hcond) | refine rb ?_ | refine nd ?_ | refine dk ?_ | fail)
  refine WP.loop (ι := Nat) (fun k => ⟨[(0, .fv (slOf encFl l)), (1, .fn F [c]), (7, .fv (.int .i64 l.length)), (8, .fv (.int .i64 k))], []⟩) (fun k => k ≤ l.length ∧ ∀ x ∈ l.take k, p x = false) (fun k => l.length - k) 0 ⟨by omega, by simp⟩ ?_ ?_
  · exact lq
  rintro k ⟨hk, hd⟩
  try dsimp only
  by_cases hlt : k < l.length
  case neg =>
    rw [List.take_of_length_le (by omega)] at hd
    rw [idxB_none p l hd]
    repeat' (first | refine X.loc ?_ | refine nx ?_ | refine X.cdT ?_ | refine X.cdF ?_ | refine cb ?_ ?_ | (refine cc ?_ ?_ <;> intro hcond) | refine rb ?_ | refine nd ?_ | refine dk ?_ | fail)
    exact .f1 (.inl rfl) rfl rfl
  case pos =>
    obtain ⟨x, hx⟩ : ∃ x, l[k]? = some x := ⟨_, List.getElem?_eq_getElem hlt⟩
    have hc := hp x (List.mem_of_getElem? hx)
    cases hpx : p x with
    | true =>
      rw [hpx] at hc
      rw [idxB_take p l k hd (fun y hy => by rw [hx] at hy; obtain rfl := Option.some.inj hy; exact hpx) hlt]
      repeat' (first | (apply X.loE; (· exact aR); (· first | exact .callL rfl rfl rfl (hc) rfl | exact bl (hc))) | refine X.loc ?_ | refine nx ?_ | refine X.cdT ?_ | refine X.cdF ?_ | refine cb ?_ ?_ | (refine cc ?_ ?_ <;> intro hcond) | (apply X.gsE; (· exact aR); (· exact aV); (· exact aW); (· intro hc; first | exact .callG rfl rfl rfl (hc) rfl | exact bg (hc)); (· exact aR)) | refine rb ?_ | refine nd ?_ | refine dk ?_ | fail)
      exact .f1 (.inl rfl) rfl rfl
    | false =>
      rw [hpx] at hc
      repeat' (first | (apply X.loE; (· exact aR); (· first | exact .callL rfl rfl rfl (hc) rfl | exact bl (hc))) | refine X.loc ?_ | refine nx ?_ | refine X.cdT ?_ | refine X.cdF ?_ | refine cb ?_ ?_ | (refine cc ?_ ?_ <;> intro hcond) | (apply X.gsE; (· exact aR); (· exact aV); (· exact aW); (· intro hc; first | exact .callG rfl rfl rfl (hc) rfl | exact bg (hc)); (· exact aR)) | refine rb ?_ | refine nd ?_ | refine dk ?_ | fail)
      refine ⟨k + 1, ⟨by omega, ?_⟩, by omega, ?_⟩
      · rw [take_succ hx]
        intro y hy
        rcases List.mem_append.1 hy with hy | hy
        · exact hd y hy
        · obtain rfl := List.mem_singleton.1 hy
          exact hpx
      · exact lq
theorem contFl_T {F : Nat} {c : AV} (l : List Fl) (p : Fl → Bool) (hp : ∀ x ∈ l, Fun Tryz.prog F [.agg ((encFl x).map .fv), c] (.fv (.bool (p x)))) (hl : l.length < 9223372036854775807) : Fun Tryz.prog 121 [.fv (slOf encFl l), .fn F [c]] (.fv (.bool (l.any p))) := by
  have h1 := idxFl_T l p hp hl
  have h2 := idxB_any p l
  have h3 := idxB_ge p l
  generalize idxB p l = i at *
  refine Fun.body tbl_ok Tryz.func121 rfl (by kernel_rfl) rfl rfl rfl ?_
  repeat' (first | (apply X.loE; (· exact aR); (· first | exact .callL rfl rfl rfl (h1) rfl | exact bl (h1))) | refine X.loc ?_ | refine nx ?_ | refine cb ?_ ?_ | (refine cc ?_ ?_ <;> intro hcond) | (apply X.gsE; (· exact aR); (· exact aV); (· exact aW); (· intro hc; first | exact .callG rfl rfl rfl (h1) rfl | exact bg (h1)); (· exact aR)) | refine rb ?_ | refine nd ?_ | refine dk ?_ | fail)
  refine .f1 (.inl rfl) rfl ?_
  congr 1
  rw [Bool.eq_iff_iff, decide_eq_true_eq]
  cases h : l.any p <;> simp [h] at h2 ⊢ <;> omega
theorem hasC_T (f g : Fl) (hf : f.Fit) (hg : g.Fit) : Fun Tryz.prog 122 [.agg ((encFl g).map .fv), .fptr (encFl f)] (.fv (.bool (ordF f g == 0))) := by
  have c := order_T f g hf hg
  generalize ordF f g = o at *
  refine Fun.body tbl_ok Tryz.func122 rfl (by kernel_rfl) rfl rfl rfl ?_
  repeat' (first | (apply X.loE; (· exact aR); (· first | exact .callL rfl rfl rfl (c) rfl | exact bl (c))) | refine X.loc ?_ | refine nx ?_ | refine cb ?_ ?_ | (refine cc ?_ ?_ <;> intro hcond) | (apply X.gsE; (· exact aR); (· exact aV); (· exact aW); (· intro hc; first | exact .callG rfl rfl rfl (c) rfl | exact bg (c)); (· exact aR)) | refine rb ?_ | refine nd ?_ | refine dk ?_ | fail)
  exact .f1 (.inl rfl) rfl rfl
theorem hasF_T (b : List Fl) (f : Fl) (hf : f.Fit) (hb : FitL b) (hl : b.length < 9223372036854775807) : Fun Tryz.prog 120 [.agg ((encFl f).map .fv), .fptr [slOf encFl b]] (.fv (.bool (hasF b f))) := by
  have c := contFl_T (F := 122) (c := .fptr (encFl f)) b (fun g => ordF f g == 0) (fun g hg => hasC_T f g hf (hb g hg)) hl
  have e : b.any (fun g => ordF f g == 0) = hasF b f := rfl
  rw [e] at c
  generalize hasF b f = r at *
  refine Fun.body tbl_ok Tryz.func120 rfl (by kernel_rfl) rfl rfl rfl ?_
  repeat' (first | (apply X.loE; (· exact aR); (· first | exact .callL rfl rfl rfl (c) rfl | exact bl (c))) | refine X.loc ?_ | refine nx ?_ | refine cb ?_ ?_ | (refine cc ?_ ?_ <;> intro hcond) | (apply X.gsE; (· exact aR); (· exact aV); (· exact aW); (· intro hc; first | exact .callG rfl rfl rfl (c) rfl | exact bg (c)); (· exact aR)) | refine rb ?_ | refine nd ?_ | refine dk ?_ | fail)
  exact .f1 (.inl rfl) rfl rfl
set_option maxHeartbeats 4000000 in
theorem deleteFl_T {F : Nat} {us : List FV} (l : List Fl) (p : Fl → Bool) (hp : ∀ x ∈ l, Fun Tryz.prog F [.agg ((encFl x).map .fv), .fptr us] (.fv (.bool (p x)))) (hl : l.length < 9223372036854775807) : FunO Tryz.prog 119 [.osl 1000, .fn F [.fptr us]] [(1000, .row 108 4 l.length ((l.flatMap encFl).map .fv))] (.osl 7) [(7, .row 108 4 (l.filter fun x => !p x).length (((l.filter fun x => !p x).flatMap encFl).map .fv))] := by
  have hix := idxFl_T (c := .fptr us) l p hp hl
  have hge := idxB_ge p l
  have hany := idxB_any p l
  have hgen : ∃ x, x = idxB p l := ⟨_, rfl⟩
  obtain ⟨x0, hx0⟩ := hgen
  rw [← hx0] at hix hge hany
  refine FunO.bodyL tbl_ok Tryz.func119 rfl (by kernel_rfl) rfl rfl rfl ?_
  by_cases hneg : x0 < 0
  · obtain rfl : x0 = -1 := by omega
    have hnone := hany.1 (by omega)
    have e : (l.filter fun x => !p x) = l := List.filter_eq_self.2 fun x hx => by
      have := List.any_eq_false.1 hnone x hx
      simpa using this
    rw [e]
    repeat' (first | (apply X.loE; (· exact aR); (· first | exact .callL rfl rfl rfl (hix) rfl | exact bl (hix))) | refine X.loc ?_ | refine nx ?_ | refine X.cdT ?_ | refine X.cdF ?_ | refine cb ?_ ?_ | (refine cc ?_ ?_ <;> intro hcond) | (apply X.gsE; (· exact aR); (· exact aV); (· exact aW); (· intro hc; first | exact .callG rfl rfl rfl (hix) rfl | exact bg (hix)); (· exact aR)) | refine rb ?_ | refine nd ?_ | refine dk ?_ | fail)
    exact rq ⟨[(4, .osl 7)], [(7, .row 108 4 l.length ((l.flatMap encFl).map .fv))]⟩ (tq [(7, .id 1000)] [])
  · obtain ⟨i, rfl⟩ : ∃ i : Nat, x0 = i := ⟨x0.toNat, by omega⟩
    obtain ⟨x, hx, hpx, _⟩ := idxB_at p l i hx0.symm
    have hpre : (l.take i).filter (fun x => !p x) = l.take i := by
      apply List.filter_eq_self.2
      intro y hy
      cases hyp : p y with
      | false => rfl
      | true =>
        exfalso
        obtain ⟨j, hj⟩ := List.mem_iff_getElem?.1 hy
        rw [List.getElem?_take] at hj
        split at hj
        · rename_i hji
          have h1 : ∀ (m : List Fl) (j : Nat) (y : Fl), m[j]? = some y → p y = true → idxB p m ≤ j := by
            intro m
            induction m with
            | nil => intro j y h; simp at h
            | cons z m ih =>
              intro j y h hpy
              unfold idxB
              cases j with
              | zero =>
                obtain rfl := Option.some.inj h
                rw [if_pos hpy]
                omega
              | succ j =>
                have := ih j y (by simpa using h) hpy
                split
                · omega
                · split <;> omega
          have := h1 l j y hj hyp
          omega
        · cases hj
    have hi : i < l.length := by omega
    have hs1 : (l.take (i + 1)).filter (fun x => !p x) = l.take i := by
      rw [take_succ hx, List.filter_append, hpre]
      simp [hpx]
    repeat' (first | (apply X.loE; (· exact aR); (· first | exact .callL rfl rfl rfl (hix) rfl | exact bl (hix))) | refine X.loc ?_ | refine nx ?_ | refine X.cdT ?_ | refine X.cdF ?_ | refine cb ?_ ?_ | (refine cc ?_ ?_ <;> intro hcond) | (apply X.gsE; (· exact aR); (· exact aV); (· exact aW); (· intro hc; first | exact .callG rfl rfl rfl (hix) rfl | exact bg (hix)); (· exact aR)) | refine rb ?_ | refine nd ?_ | refine dk ?_ | fail)
    refine WP.loop (ι := Nat × List Fl) (fun q => ⟨[(0, .osl 1000), (1, .fn F [.fptr us]), (5, .fv (.int .i64 ((l.take q.1).filter fun x => !p x).length)), (6, .fv (.int .i64 q.1))], [(1000, .row 108 4 l.length ((q.2.flatMap encFl).map .fv))]⟩) (fun q => i + 1 ≤ q.1 ∧ q.1 ≤ l.length ∧ q.2.length = l.length ∧ q.2.take ((l.take q.1).filter fun x => !p x).length = (l.take q.1).filter (fun x => !p x) ∧ q.2.drop q.1 = l.drop q.1 ∧ ((l.take q.1).filter fun x => !p x).length + 1 ≤ q.1) (fun q => l.length - q.1) (i + 1, l) ⟨by omega, by dsimp only; omega, rfl, by dsimp only; rw [hs1, List.length_take, Nat.min_eq_left (by omega)], rfl, by dsimp only; rw [hs1, List.length_take, Nat.min_eq_left (by omega)]; omega⟩ ?_ ?_
    · try dsimp only
      rw [hs1, List.length_take, Nat.min_eq_left (by omega)]
      exact tq [] []
    rintro ⟨q, R⟩ ⟨g1, g2, g3, g4, g5, g6⟩
    try dsimp only at g1 g2 g3 g4 g5 g6
    try dsimp only
    by_cases hq : q < l.length
    case pos =>
      obtain ⟨a, ha⟩ : ∃ a, l[q]? = some a := ⟨_, List.getElem?_eq_getElem hq⟩
      have hRa : R[q]? = some a := by
        have := congrArg (fun m => m[0]?) g5
        simp only [List.getElem?_drop, Nat.add_zero] at this
        rw [this, ha]
      have hc := hp a (List.mem_of_getElem? ha)
      have hs2 : (l.take (q + 1)).filter (fun x => !p x) = (l.take q).filter (fun x => !p x) ++ (if p a = true then [] else [a]) := by
        rw [take_succ ha, List.filter_append]
        congr 1
        cases h : p a <;> simp [h]
      cases hpa : p a with
      | true =>
        rw [hpa] at hc hs2
        rw [if_pos rfl, List.append_nil] at hs2
        repeat' (first | (apply X.loE; (· exact aR); (· first | (exact .eff (.loadO rfl rfl (readFl (i := q) (by omega) hRa))) | exact .callL rfl rfl rfl (hc) rfl | exact bl (hc))) | refine X.loc ?_ | refine nx ?_ | refine X.cdT ?_ | refine X.cdF ?_ | refine cb ?_ ?_ | (refine cc ?_ ?_ <;> intro hcond) | (apply X.gsE; (· exact aR); (· exact aV); (· exact aW); (· intro hc; first | (exact .eff (.loadO rfl rfl (readFl (i := q) (by omega) hRa))) | exact .callG rfl rfl rfl (hc) rfl | exact bg (hc)); (· exact aR)) | refine rb ?_ | refine nd ?_ | refine dk ?_ | fail)
        refine ⟨(q + 1, R), ⟨by omega, by dsimp only; omega, g3, by dsimp only; rw [hs2]; exact g4, ?_, by dsimp only; rw [hs2]; omega⟩, by dsimp only; omega, ?_⟩
        · show R.drop (q + 1) = l.drop (q + 1)
          rw [← List.drop_drop, g5, List.drop_drop]
        · try dsimp only
          rw [hs2]
          exact tq [] []
      | false =>
        rw [hpa] at hc hs2
        rw [if_neg (by simp)] at hs2
        have hset := setFl (l := R) (i := ((l.take q).filter fun x => !p x).length) (off := (((l.take q).filter fun x => !p x).length : Int).toNat * 4) (x := a) (by omega) (by omega)
        have hcl : ((l.take (q + 1)).filter fun x => !p x).length = ((l.take q).filter fun x => !p x).length + 1 := by rw [hs2]; simp
        repeat' (first | (apply X.loE; (· exact aR); (· first | (exact .eff (.loadO rfl rfl (readFl (i := q) (by omega) hRa))) | exact .callL rfl rfl rfl (hc) rfl | exact bl (hc))) | refine X.loc ?_ | (apply X.stRE; (· exact aS); (· exact hset); (· exact aE)) | refine nx ?_ | refine X.cdT ?_ | refine X.cdF ?_ | refine cb ?_ ?_ | (refine cc ?_ ?_ <;> intro hcond) | (apply X.gsE; (· exact aR); (· exact aV); (· exact aW); (· intro hc; first | (exact .eff (.loadO rfl rfl (readFl (i := q) (by omega) hRa))) | exact .callG rfl rfl rfl (hc) rfl | exact bg (hc)); (· exact aR)) | refine rb ?_ | refine nd ?_ | refine dk ?_ | fail)
        refine ⟨(q + 1, R.set ((l.take q).filter fun x => !p x).length a), ⟨by omega, by dsimp only; omega, by dsimp only; rw [List.length_set, g3], ?_, ?_, by dsimp only; rw [hcl]; omega⟩, by dsimp only; omega, ?_⟩
        · dsimp only
          rw [hcl, hs2, List.take_add_one, List.take_set_of_le (by omega), g4, List.getElem?_set_self (by omega)]
          rfl
        · show (R.set _ a).drop (q + 1) = l.drop (q + 1)
          rw [List.drop_set_of_lt (by omega), ← List.drop_drop, g5, List.drop_drop]
        · try dsimp only
          rw [hcl]
          exact tq [] []
    case neg =>
      obtain rfl : q = l.length := by omega
      rw [List.take_length] at g4 g6 ⊢
      have hcl := List.length_filter_le (fun x => !p x) l
      generalize hL : l.filter (fun x => !p x) = L at *
      generalize hW : L.length = W at *
      have hclr : ∃ cs2, setC ((R.flatMap encFl).map AV.fv) (W * 4) ((List.replicate (l.length - W) flZ).flatten) = some cs2 ∧ cs2.take (W * 4) = (L.flatMap encFl).map .fv := by
        have h6 := setC_mk (cs := (R.flatMap encFl).map AV.fv) (off := W * 4) (us := (List.replicate (l.length - W) flZ).flatten) (by
          rw [List.length_flatten, List.map_replicate, List.sum_replicate_nat, List.length_map, flatMap_len encFl_len, g3]
          show W * 4 + (l.length - W) * 4 ≤ _
          omega)
        refine ⟨_, h6, ?_⟩
        rw [clr_cells h6, ← List.map_take, ← g4]
        congr 1
        have h7 : (R.take W ++ R.drop W).flatMap encFl = R.flatMap encFl := by rw [List.take_append_drop]
        rw [← h7, List.flatMap_append]
        exact List.take_left' (by rw [flatMap_len encFl_len, List.length_take, Nat.min_eq_left (by omega)])
      obtain ⟨cs2, h4, h5⟩ := hclr
      repeat' (first | refine X.loc ?_ | (apply X.clr; (· exact aR); (· exact h4); (· exact aE)) | refine nx ?_ | refine X.cdT ?_ | refine X.cdF ?_ | refine cb ?_ ?_ | (refine cc ?_ ?_ <;> intro hcond) | refine rb ?_ | refine nd ?_ | refine dk ?_ | fail)
      refine .ofL (s' := ⟨[(4, .osl 7)], [(7, .row 108 4 W ((L.flatMap encFl).map .fv))]⟩) (.inl rfl) ?_ rfl rfl ⟨⟨_, rfl, fun _ _ _ _ h => h⟩, trivial⟩
      refine St.to [(7, .cut 1000 W)] [] rfl rfl ⟨⟨_, rfl, .cut rfl⟩, trivial⟩ ⟨?_, trivial⟩
      exact .cut rfl rfl (by omega) (by omega) h5 (.maps rfl)
structure Room (l : List Fl) : Prop where
  fit : FitL l
  len : l.length * 64 ≤ 140737488355328
theorem sortedF_len (l : List Fl) : (sortedF l).length ≤ l.length := by
  have := compF_len (sortF l)
  rw [(sortF_perm l).length_eq] at this
  exact this
theorem withoutO_T (a b : List Fl) (ha : Room a) (hb : Room b) : FunO Tryz.prog 88 [.fv (slOf encFl a), .fv (slOf encFl b)] [] (.osl 7) [(7, .row 108 4 (leftF a b).length (((leftF a b).flatMap encFl).map .fv))] := by
  have hl := ha.len
  have hl2 := hb.len
  have c1 := sort_T a ha.fit hl
  have hsl := sortedF_len a
  have c2 := deleteFl_T (F := 120) (us := [slOf encFl b]) (sortedF a) (hasF b) (fun x hx => hasF_T b x (ha.fit x (sortedF_mem.1 hx)) hb.fit (by omega)) (by omega)
  have e : (sortedF a).filter (fun x => !hasF b x) = leftF a b := rfl
  rw [e] at c2
  generalize leftF a b = L at *
  generalize sortedF a = S at *
  refine FunO.bodyL tbl_ok Tryz.func88 rfl (by kernel_rfl) rfl rfl rfl ?_
  repeat' (first | refine X.loc ?_ | refine nx ?_ | refine X.cdT ?_ | refine X.cdF ?_ | refine cb ?_ ?_ | (refine cc ?_ ?_ <;> intro hcond) | refine rb ?_ | refine X.c0 (c1) ?_ | refine X.c0 (c2) ?_ | refine nd ?_ | refine dk ?_ | fail)
  exact rq ⟨[(4, .osl 7)], [(7, .row 108 4 L.length ((L.flatMap encFl).map .fv))]⟩ (tq [(7, .id 8)] [])
theorem without_T (a b : List Fl) (ha : Room a) (hb : Room b) : Fun Tryz.prog 88 [.fv (slOf encFl a), .fv (slOf encFl b)] (.fv (slOf encFl (leftF a b))) := (withoutO_T a b ha hb).froz [7] (.frz rfl rfl rfl)
theorem diff_T (a b : List Fl) (ha : Room a) (hb : Room b) : Fun Tryz.prog 72 [.fv (slOf encFl a), .fv (slOf encFl b)] (.tup [.fv (slOf encFl (leftF b a)), .fv (slOf encFl (leftF a b))]) := by
  have c1 := without_T a b ha hb
  have c2 := without_T b a hb ha
  generalize leftF a b = A at *
  generalize leftF b a = B at *
  refine Fun.body tbl_ok Tryz.func72 rfl (by kernel_rfl) rfl rfl rfl ?_
  repeat' (first | (apply X.loE; (· exact aR); (· first | exact .callL rfl rfl rfl (by first | exact c1 | exact c2) rfl | exact bl (c1) | exact bl (c2))) | refine X.loc ?_ | refine nx ?_ | refine X.cdT ?_ | refine X.cdF ?_ | refine cb ?_ ?_ | (refine cc ?_ ?_ <;> intro hcond) | (apply X.gsE; (· exact aR); (· exact aV); (· exact aW); (· intro hc; first | exact .callG rfl rfl rfl (by first | exact c1 | exact c2) rfl | exact bg (c1) | exact bg (c2)); (· exact aR)) | refine rb ?_ | refine nd ?_ | refine dk ?_ | fail)
  exact .fun (.inl rfl) rfl rfl
theorem leftF_room {a b : List Fl} (ha : Room a) : Room (leftF a b) := by
  refine ⟨fun x hx => ha.fit x (leftF_mem.1 hx).1, ?_⟩
  have h1 := List.length_filter_le (fun x => !hasF b x) (sortedF a)
  have h2 := sortedF_len a
  have h3 := ha.len
  unfold leftF
  omega
theorem patch_T (l come gone : List Fl) (hl : Room l) (hg : Room gone) (hc : FitL come) (hlen : (l.length + come.length) * 64 ≤ 140737488355328) : FunO Tryz.prog 57 [.fv (slOf encFl l), .fv (slOf encFl come), .fv (slOf encFl gone)] [] (.osl 7) [(7, .row 108 4 (patchF l come gone).length (((patchF l come gone).flatMap encFl).map .fv))] := by
  have c1 := withoutO_T l gone hl hg
  have hL := leftF_room (b := gone) hl
  have hll : (leftF l gone).length ≤ l.length := by
    have h1 := List.length_filter_le (fun x => !hasF gone x) (sortedF l)
    have h2 := sortedF_len l
    unfold leftF
    omega
  have e0 : patchF l come gone = sortedF (leftF l gone ++ come) := rfl
  rw [e0]
  generalize leftF l gone = L at *
  have hln : (L ++ come).length = L.length + come.length := by simp
  have c2 := sort_T (L ++ come) (fun f hf => by
    rcases List.mem_append.1 hf with h | h
    · exact hL.fit f h
    · exact hc f h) (by omega)
  have hcells : (L.flatMap encFl).map AV.fv ++ (come.flatMap encFl).map AV.fv = ((L ++ come).flatMap encFl).map AV.fv := by rw [List.flatMap_append, List.map_append]
  rw [slOf, hln] at c2
  generalize sortedF (L ++ come) = S at *
  refine FunO.bodyL tbl_ok Tryz.func57 rfl (by kernel_rfl) rfl rfl rfl ?_
  repeat' (first | refine X.loc ?_ | refine nx ?_ | refine X.cdT ?_ | refine X.cdF ?_ | refine cb ?_ ?_ | (refine cc ?_ ?_ <;> intro hcond) | refine rb ?_ | refine X.c0 (c1) ?_ | (apply X.cal false; (· exact aR); (· exact c2); (· (refine ⟨?_, ?_, ?_, ?_, ?_, ?_, ?_, ?_, ?_, ?_, ?_⟩; (· skip; (repeat' (first | exact trivial | exact AV.ToL.nil | exact .ptr rfl | exact .sl rfl | exact AV.To.nil rfl | exact .le (.refl _) rfl | exact .frz rfl rfl rfl | exact .frp rfl rfl rfl | exact .le AV.Le.nil rfl | exact AV.To.frzE rfl (by first | rfl | omega | (simp; done)) (by first | assumption | (simp only [List.flatMap_append, List.map_append]; rfl)) rfl | refine AV.To.agg ?_ | refine AV.To.fn ?_ | refine AV.ToL.cons ?_ ?_ | exact OB.To.nil rfl | refine OB.To.row rfl rfl rfl ?_ | refine OB.To.box rfl rfl ?_ | exact .ofEq rfl | refine ⟨?_, ?_⟩ | exact AV.To.cut rfl | fail))); (· skip; (repeat' (first | exact trivial | exact AV.ToL.nil | exact .ptr rfl | exact .sl rfl | exact AV.To.nil rfl | exact .le (.refl _) rfl | exact .frz rfl rfl rfl | exact .frp rfl rfl rfl | exact .le AV.Le.nil rfl | exact AV.To.frzE rfl (by first | rfl | omega | (simp; done)) (by first | assumption | (simp only [List.flatMap_append, List.map_append]; rfl)) rfl | refine AV.To.agg ?_ | refine AV.To.fn ?_ | refine AV.ToL.cons ?_ ?_ | exact OB.To.nil rfl | refine OB.To.row rfl rfl rfl ?_ | refine OB.To.box rfl rfl ?_ | exact .ofEq rfl | refine ⟨?_, ?_⟩ | exact AV.To.cut rfl | fail))); (· rfl); (· rfl); (· skip; (repeat' (first | exact OwnRn.nil | apply OwnRn.cons rfl | apply OB.Rn.row | apply OB.Rn.box | exact AV.RnL.maps _ | exact AV.RnL.nil | exact AV.Rn.nil | exact AV.Rn.le rfl | exact AV.Rn.ptr rfl | exact AV.Rn.sl rfl | apply AV.RnL.cons | apply AV.Rn.agg | apply AV.Rn.tup | apply AV.Rn.fn | apply AV.RnL.app | apply AV.RnL.mapsS | fail))); (· skip; (repeat' (first | exact OwnRn.nil | apply OwnRn.cons rfl | apply OB.Rn.row | apply OB.Rn.box | exact AV.RnL.maps _ | exact AV.RnL.nil | exact AV.Rn.nil | exact AV.Rn.le rfl | exact AV.Rn.ptr rfl | exact AV.Rn.sl rfl | apply AV.RnL.cons | apply AV.Rn.agg | apply AV.Rn.tup | apply AV.Rn.fn | apply AV.RnL.app | apply AV.RnL.mapsS | fail))); (· rfl); (· rfl); (· exact (by first | exact (rfl : _ = []) | exact (rfl : _ = [_]) | exact (rfl : _ = [_, _]) | exact (rfl : _ = [_, _, _]) | exact (rfl : _ = [_, _, _, _]) | exact (rfl : _ = [_, _, _, _, _]) | exact (rfl : _ = [_, _, _, _, _, _]) | exact (rfl : _ = [_, _, _, _, _, _, _]) | exact (rfl : _ = [_, _, _, _, _, _, _, _]) | exact (rfl : _ = [_, _, _, _, _, _, _, _, _]) | exact (rfl : _ = [_, _, _, _, _, _, _, _, _, _]) | exact (rfl : _ = [_, _, _, _, _, _, _, _, _, _, _]) | exact (rfl : _ = [_, _, _, _, _, _, _, _, _, _, _, _]) | exact (rfl : _ = [_, _, _, _, _, _, _, _, _, _, _, _, _]) | exact (rfl : _ = [_, _, _, _, _, _, _, _, _, _, _, _, _, _]) | exact (rfl : _ = [_, _, _, _, _, _, _, _, _, _, _, _, _, _, _]) | exact (rfl : _ = [_, _, _, _, _, _, _, _, _, _, _, _, _, _, _, _]))); (· first | rfl | (simp only [freeNs, noRefH, OB.cells, refsL_fv, refsL_app]; rfl)); (· exact (by first | exact (rfl : _ = []) | exact (rfl : _ = [_]) | exact (rfl : _ = [_, _]) | exact (rfl : _ = [_, _, _]) | exact (rfl : _ = [_, _, _, _]) | exact (rfl : _ = [_, _, _, _, _]) | exact (rfl : _ = [_, _, _, _, _, _]) | exact (rfl : _ = [_, _, _, _, _, _, _]) | exact (rfl : _ = [_, _, _, _, _, _, _, _]) | exact (rfl : _ = [_, _, _, _, _, _, _, _, _]) | exact (rfl : _ = [_, _, _, _, _, _, _, _, _, _]) | exact (rfl : _ = [_, _, _, _, _, _, _, _, _, _, _]) | exact (rfl : _ = [_, _, _, _, _, _, _, _, _, _, _, _]) | exact (rfl : _ = [_, _, _, _, _, _, _, _, _, _, _, _, _]) | exact (rfl : _ = [_, _, _, _, _, _, _, _, _, _, _, _, _, _]) | exact (rfl : _ = [_, _, _, _, _, _, _, _, _, _, _, _, _, _, _]) | exact (rfl : _ = [_, _, _, _, _, _, _, _, _, _, _, _, _, _, _, _])))))) | refine nd ?_ | refine dk ?_ | fail)
  exact rq ⟨[(6, .osl 7)], [(7, .row 108 4 S.length ((S.flatMap encFl).map .fv))]⟩ (tq [(7, .id 12)] [])
theorem patchF_T (l come gone : List Fl) (hl : Room l) (hg : Room gone) (hc : FitL come) (hlen : (l.length + come.length) * 64 ≤ 140737488355328) : Fun Tryz.prog 57 [.fv (slOf encFl l), .fv (slOf encFl come), .fv (slOf encFl gone)] (.fv (slOf encFl (patchF l come gone))) := (patch_T l come gone hl hg hc hlen).froz [7] (.frz rfl rfl rfl)
theorem readPl {l : List Po} {i off : Nat} {x : Po} (h : off = i * 5) (hx : l[i]? = some x) : readA tbl 69 off ((l.flatMap encPo).map .fv) = some (.agg ((encPo x).map .fv)) := by
  subst h
  have hlt := (List.getElem?_eq_some_iff.1 hx).1
  have hlen : ((l.flatMap encPo).map AV.fv).length = l.length * 5 := by rw [List.length_map, flatMap_len encPo_len]
  have h1 : (l.flatMap encPo).drop (i * 5) = encPo x ++ (l.drop (i + 1)).flatMap encPo := by
    have e : l = l.take i ++ x :: l.drop (i + 1) := by
      rw [← (List.getElem?_eq_some_iff.1 hx).2, ← List.drop_eq_getElem_cons hlt, List.take_append_drop]
    have e2 : ((l.take i).flatMap encPo).length = i * 5 := by rw [flatMap_len encPo_len, List.length_take, Nat.min_eq_left (by omega)]
    have e3 : l.flatMap encPo = (l.take i).flatMap encPo ++ (encPo x ++ (l.drop (i + 1)).flatMap encPo) := by
      conv => lhs; rw [e]
      rw [List.flatMap_append, List.flatMap_cons]
    rw [e3, ← e2, List.drop_left']
    rfl
  unfold readA
  rw [dropO_mk (by rw [hlen]; exact Nat.mul_le_mul_right 5 (by omega)), ← List.map_drop, h1, List.map_append]
  generalize ((l.drop (i + 1)).flatMap encPo).map AV.fv = r
  cases r with
  | nil => rfl
  | cons a r => rfl
theorem setPl {l : List Po} {i off : Nat} {x : Po} (h : off = i * 5) (hi : i < l.length) : setC ((l.flatMap encPo).map .fv) off ((encPo x).map .fv) = some (((l.set i x).flatMap encPo).map .fv) := by
  subst h
  induction l generalizing i with
  | nil => simp at hi
  | cons y l ih =>
    cases i with
    | zero => simp [setC, encPo]
    | succ i =>
      have := ih (i := i) (by simpa using hi)
      rw [show (i + 1) * 5 = (i * 5) + 5 from by omega]
      simp only [List.flatMap_cons, List.map_append, List.set_cons_succ]
      show setC (AV.fv (.int .i64 y.id) :: AV.fv (.int .i64 y.sw) :: AV.fv (.int .i64 y.mac) :: AV.fv (.int .i64 y.ip) :: AV.fv (.int .i64 y.ch) :: (l.flatMap encPo).map AV.fv) _ _ = _
      simp only [setC, this]
      rfl
def poR (l : List Po) : OB := .row 69 5 l.length ((l.flatMap encPo).map .fv)
def poZ : List AV := [.fv (.int .i64 0), .fv (.int .i64 0), .fv (.int .i64 0), .fv (.int .i64 0), .fv (.int .i64 0)]
def mkP : OB := .box 151 [.optr 1000 0]
theorem herep_T (c : Cf) (ch : Int) (L : List Fl) (x : Po) : FunO Tryz.prog 154 [.agg ((encPo x).map .fv), .optr 1002 0] [(1002, mkP), (1000, mkB c ch 1001), (1001, flR L)] (.fv (.bool (x.ch != ch))) [(1002, mkP), (1000, mkB c ch 1001), (1001, flR L)] := by
  refine FunO.bodyL tbl_ok Tryz.func154 rfl (by kernel_rfl) rfl rfl rfl ?_
  unfold mkB flR mkC mkP
  repeat' (first | refine X.loc ?_ | refine nx ?_ | refine X.cdT ?_ | refine X.cdF ?_ | refine cb ?_ ?_ | (refine cc ?_ ?_ <;> intro hcond) | refine rb ?_ | refine nd ?_ | refine dk ?_ | fail)
  exact rq ⟨[(3, .fv (.bool (x.ch != ch)))], [(1002, .box 151 [.optr 1000 0]), (1000, .box 153 ((encCf c).map .fv ++ [.fv (.int .i64 ch), .osl 1001])), (1001, .row 108 4 L.length ((L.flatMap encFl).map .fv))]⟩ (tq [] [])
set_option maxHeartbeats 2000000 in
theorem idxPoO_T (c : Cf) (ch : Int) (L : List Fl) (l : List Po) (hl : l.length < 9223372036854775807) : FunO Tryz.prog 73 [.osl 1003, .fn 154 [.optr 1002 0]] [(1003, poR l), (1002, mkP), (1000, mkB c ch 1001), (1001, flR L)] (.fv (.int .i64 (idxB (fun x => x.ch != ch) l))) [(1003, poR l), (1002, mkP), (1000, mkB c ch 1001), (1001, flR L)] := by
  refine FunO.bodyL tbl_ok Tryz.func73 rfl (by kernel_rfl) rfl rfl rfl ?_
  unfold mkB flR mkC mkP poR
  have hp := fun x => herep_T c ch L x
  unfold mkB flR mkC mkP at hp
  repeat' (first | refine X.loc ?_ | refine nx ?_ | refine X.cdT ?_ | refine X.cdF ?_ | refine cb ?_ ?_ | (refine cc ?_ ?_ <;> intro hcond) | refine rb ?_ | refine nd ?_ | refine dk ?_ | fail)
  refine WP.loop (ι := Nat) (fun k => ⟨[(0, .osl 1003), (1, .fn 154 [.optr 1002 0]), (6, .osl 1003), (7, .fv (.int .i64 l.length)), (8, .fv (.int .i64 k))], [(1003, .row 69 5 l.length ((l.flatMap encPo).map .fv)), (1002, .box 151 [.optr 1000 0]), (1000, .box 153 ((encCf c).map .fv ++ [.fv (.int .i64 ch), .osl 1001])), (1001, .row 108 4 L.length ((L.flatMap encFl).map .fv))]⟩) (fun k => k ≤ l.length ∧ ∀ x ∈ l.take k, (x.ch != ch) = false) (fun k => l.length - k) 0 ⟨by omega, by simp⟩ ?_ ?_
  · exact tq [] []
  rintro k ⟨hk, hd⟩
  try dsimp only
  by_cases hlt : k < l.length
  case neg =>
    rw [List.take_of_length_le (by omega)] at hd
    rw [idxB_none _ l hd]
    repeat' (first | refine X.loc ?_ | refine nx ?_ | refine X.cdT ?_ | refine X.cdF ?_ | refine cb ?_ ?_ | (refine cc ?_ ?_ <;> intro hcond) | refine rb ?_ | refine nd ?_ | refine dk ?_ | fail)
    exact rq ⟨[(4, .fv (.int .i64 (-1)))], [(1003, .row 69 5 l.length ((l.flatMap encPo).map .fv)), (1002, .box 151 [.optr 1000 0]), (1000, .box 153 ((encCf c).map .fv ++ [.fv (.int .i64 ch), .osl 1001])), (1001, .row 108 4 L.length ((L.flatMap encFl).map .fv))]⟩ (tq [] [])
  case pos =>
    obtain ⟨x, hx⟩ : ∃ x, l[k]? = some x := ⟨_, List.getElem?_eq_getElem hlt⟩
    have hc := hp x
    cases hpx : (x.ch != ch) with
    | true =>
      rw [hpx] at hc
      rw [idxB_take _ l k hd (fun y hy => by rw [hx] at hy; obtain rfl := Option.some.inj hy; exact hpx) hlt]
      repeat' (first | (apply X.loE; (· exact aR); (· first | (exact .eff (.loadO rfl rfl (readPl (i := k) (by omega) hx))))) | refine X.loc ?_ | refine nx ?_ | refine X.cdT ?_ | refine X.cdF ?_ | refine cb ?_ ?_ | (refine cc ?_ ?_ <;> intro hcond) | (apply X.gsE; (· exact aR); (· exact aV); (· exact aW); (· intro hc; first | (exact .eff (.loadO rfl rfl (readPl (i := k) (by omega) hx)))); (· exact aR)) | refine rb ?_ | refine X.c0 (hc) ?_ | refine nd ?_ | refine dk ?_ | fail)
      exact rq ⟨[(4, .fv (.int .i64 k))], [(1003, .row 69 5 l.length ((l.flatMap encPo).map .fv)), (1002, .box 151 [.optr 1000 0]), (1000, .box 153 ((encCf c).map .fv ++ [.fv (.int .i64 ch), .osl 1001])), (1001, .row 108 4 L.length ((L.flatMap encFl).map .fv))]⟩ (tq [] [])
    | false =>
      rw [hpx] at hc
      repeat' (first | (apply X.loE; (· exact aR); (· first | (exact .eff (.loadO rfl rfl (readPl (i := k) (by omega) hx))))) | refine X.loc ?_ | refine nx ?_ | refine X.cdT ?_ | refine X.cdF ?_ | refine cb ?_ ?_ | (refine cc ?_ ?_ <;> intro hcond) | (apply X.gsE; (· exact aR); (· exact aV); (· exact aW); (· intro hc; first | (exact .eff (.loadO rfl rfl (readPl (i := k) (by omega) hx)))); (· exact aR)) | refine rb ?_ | refine X.c0 (hc) ?_ | refine nd ?_ | refine dk ?_ | fail)
      refine ⟨k + 1, ⟨by omega, ?_⟩, by omega, ?_⟩
      · rw [take_succ hx]
        intro y hy
        rcases List.mem_append.1 hy with hy | hy
        · exact hd y hy
        · obtain rfl := List.mem_singleton.1 hy
          exact hpx
      · exact tq [] []
set_option maxHeartbeats 4000000 in
theorem deletePoO_T (c : Cf) (ch : Int) (L : List Fl) (l : List Po) (hl : l.length < 9223372036854775807) : FunO Tryz.prog 153 [.osl 1003, .fn 154 [.optr 1002 0]] [(1003, poR l), (1002, mkP), (1000, mkB c ch 1001), (1001, flR L)] (.osl 7) [(7, poR (l.filter fun x => !(x.ch != ch))), (1002, mkP), (1000, mkB c ch 1001), (1001, flR L)] := by
  have hix := idxPoO_T c ch L l hl
  have hp := fun x => herep_T c ch L x
  unfold mkB flR mkC mkP at hp
  unfold mkB flR mkC mkP poR at hix
  unfold mkB flR mkC mkP poR
  have hgp : ∃ p : Po → Bool, p = fun x => x.ch != ch := ⟨_, rfl⟩
  obtain ⟨p, ep⟩ := hgp
  have hp : ∀ x : Po, FunO Tryz.prog 154 [.agg ((encPo x).map .fv), .optr 1002 0] [(1002, .box 151 [.optr 1000 0]), (1000, .box 153 ((encCf c).map .fv ++ [.fv (.int .i64 ch), .osl 1001])), (1001, .row 108 4 L.length ((L.flatMap encFl).map .fv))] (.fv (.bool (p x))) [(1002, .box 151 [.optr 1000 0]), (1000, .box 153 ((encCf c).map .fv ++ [.fv (.int .i64 ch), .osl 1001])), (1001, .row 108 4 L.length ((L.flatMap encFl).map .fv))] := fun x => by rw [ep]; exact hp x
  have e9 : (l.filter fun x => !(x.ch != ch)) = l.filter fun x => !p x := by rw [ep]
  rw [e9]
  rw [← ep] at hix
  have hge := idxB_ge p l
  have hany := idxB_any p l
  have hgen : ∃ x, x = idxB p l := ⟨_, rfl⟩
  obtain ⟨x0, hx0⟩ := hgen
  rw [← hx0] at hix hge hany
  refine FunO.bodyL tbl_ok Tryz.func153 rfl (by kernel_rfl) rfl rfl rfl ?_
  by_cases hneg : x0 < 0
  · obtain rfl : x0 = -1 := by omega
    have hnone := hany.1 (by omega)
    have e : (l.filter fun x => !p x) = l := List.filter_eq_self.2 fun x hx => by
      have := List.any_eq_false.1 hnone x hx
      simpa using this
    rw [e]
    repeat' (first | refine X.loc ?_ | refine nx ?_ | refine X.cdT ?_ | refine X.cdF ?_ | refine cb ?_ ?_ | (refine cc ?_ ?_ <;> intro hcond) | refine rb ?_ | refine X.c0 (hix) ?_ | refine nd ?_ | refine dk ?_ | fail)
    exact rq ⟨[(4, .osl 7)], [(7, .row 69 5 l.length ((l.flatMap encPo).map .fv)), (1002, .box 151 [.optr 1000 0]), (1000, .box 153 ((encCf c).map .fv ++ [.fv (.int .i64 ch), .osl 1001])), (1001, .row 108 4 L.length ((L.flatMap encFl).map .fv))]⟩ (tq [(7, .id 1003)] [])
  · obtain ⟨i, rfl⟩ : ∃ i : Nat, x0 = i := ⟨x0.toNat, by omega⟩
    obtain ⟨x, hx, hpx, _⟩ := idxB_at p l i hx0.symm
    have hpre : (l.take i).filter (fun x => !p x) = l.take i := by
      apply List.filter_eq_self.2
      intro y hy
      cases hyp : p y with
      | false => rfl
      | true =>
        exfalso
        obtain ⟨j, hj⟩ := List.mem_iff_getElem?.1 hy
        rw [List.getElem?_take] at hj
        split at hj
        · rename_i hji
          have h1 : ∀ (m : List Po) (j : Nat) (y : Po), m[j]? = some y → p y = true → idxB p m ≤ j := by
            intro m
            induction m with
            | nil => intro j y h; simp at h
            | cons z m ih =>
              intro j y h hpy
              unfold idxB
              cases j with
              | zero =>
                obtain rfl := Option.some.inj h
                rw [if_pos hpy]
                omega
              | succ j =>
                have := ih j y (by simpa using h) hpy
                split
                · omega
                · split <;> omega
          have := h1 l j y hj hyp
          omega
        · cases hj
    have hi : i < l.length := by omega
    have hs1 : (l.take (i + 1)).filter (fun x => !p x) = l.take i := by
      rw [take_succ hx, List.filter_append, hpre]
      simp [hpx]
    repeat' (first | refine X.loc ?_ | refine nx ?_ | refine X.cdT ?_ | refine X.cdF ?_ | refine cb ?_ ?_ | (refine cc ?_ ?_ <;> intro hcond) | refine rb ?_ | refine X.c0 (hix) ?_ | refine nd ?_ | refine dk ?_ | fail)
    refine WP.loop (ι := Nat × List Po) (fun q => ⟨[(0, .osl 1003), (1, .fn 154 [.optr 1002 0]), (5, .fv (.int .i64 ((l.take q.1).filter fun x => !p x).length)), (6, .fv (.int .i64 q.1))], [(1003, .row 69 5 l.length ((q.2.flatMap encPo).map .fv)), (1002, .box 151 [.optr 1000 0]), (1000, .box 153 ((encCf c).map .fv ++ [.fv (.int .i64 ch), .osl 1001])), (1001, .row 108 4 L.length ((L.flatMap encFl).map .fv))]⟩) (fun q => i + 1 ≤ q.1 ∧ q.1 ≤ l.length ∧ q.2.length = l.length ∧ q.2.take ((l.take q.1).filter fun x => !p x).length = (l.take q.1).filter (fun x => !p x) ∧ q.2.drop q.1 = l.drop q.1 ∧ ((l.take q.1).filter fun x => !p x).length + 1 ≤ q.1) (fun q => l.length - q.1) (i + 1, l) ⟨by omega, by dsimp only; omega, rfl, by dsimp only; rw [hs1, List.length_take, Nat.min_eq_left (by omega)], rfl, by dsimp only; rw [hs1, List.length_take, Nat.min_eq_left (by omega)]; omega⟩ ?_ ?_
    · try dsimp only
      rw [hs1, List.length_take, Nat.min_eq_left (by omega)]
      exact tq [] []
    rintro ⟨q, R⟩ ⟨g1, g2, g3, g4, g5, g6⟩
    try dsimp only at g1 g2 g3 g4 g5 g6
    try dsimp only
    by_cases hq : q < l.length
    case pos =>
      obtain ⟨a, ha⟩ : ∃ a, l[q]? = some a := ⟨_, List.getElem?_eq_getElem hq⟩
      have hRa : R[q]? = some a := by
        have := congrArg (fun m => m[0]?) g5
        simp only [List.getElem?_drop, Nat.add_zero] at this
        rw [this, ha]
      have hc := hp a
      have hs2 : (l.take (q + 1)).filter (fun x => !p x) = (l.take q).filter (fun x => !p x) ++ (if p a = true then [] else [a]) := by
        rw [take_succ ha, List.filter_append]
        congr 1
        cases h : p a <;> simp [h]
      cases hpa : p a with
      | true =>
        rw [hpa] at hc hs2
        rw [if_pos rfl, List.append_nil] at hs2
        repeat' (first | (apply X.loE; (· exact aR); (· first | (exact .eff (.loadO rfl rfl (readPl (i := q) (by omega) hRa))))) | refine X.loc ?_ | refine nx ?_ | refine X.cdT ?_ | refine X.cdF ?_ | refine cb ?_ ?_ | (refine cc ?_ ?_ <;> intro hcond) | (apply X.gsE; (· exact aR); (· exact aV); (· exact aW); (· intro hc; first | (exact .eff (.loadO rfl rfl (readPl (i := q) (by omega) hRa)))); (· exact aR)) | refine rb ?_ | refine X.c0 (hc) ?_ | refine nd ?_ | refine dk ?_ | fail)
        refine ⟨(q + 1, R), ⟨by omega, by dsimp only; omega, g3, by dsimp only; rw [hs2]; exact g4, ?_, by dsimp only; rw [hs2]; omega⟩, by dsimp only; omega, ?_⟩
        · show R.drop (q + 1) = l.drop (q + 1)
          rw [← List.drop_drop, g5, List.drop_drop]
        · try dsimp only
          rw [hs2]
          exact tq [] []
      | false =>
        rw [hpa] at hc hs2
        rw [if_neg (by simp)] at hs2
        have hset := setPl (l := R) (i := ((l.take q).filter fun x => !p x).length) (off := (((l.take q).filter fun x => !p x).length : Int).toNat * 5) (x := a) (by omega) (by omega)
        have hcl : ((l.take (q + 1)).filter fun x => !p x).length = ((l.take q).filter fun x => !p x).length + 1 := by rw [hs2]; simp
        repeat' (first | (apply X.loE; (· exact aR); (· first | (exact .eff (.loadO rfl rfl (readPl (i := q) (by omega) hRa))))) | refine X.loc ?_ | (apply X.stRE; (· exact aS); (· exact hset); (· exact aE)) | refine nx ?_ | refine X.cdT ?_ | refine X.cdF ?_ | refine cb ?_ ?_ | (refine cc ?_ ?_ <;> intro hcond) | (apply X.gsE; (· exact aR); (· exact aV); (· exact aW); (· intro hc; first | (exact .eff (.loadO rfl rfl (readPl (i := q) (by omega) hRa)))); (· exact aR)) | refine rb ?_ | refine X.c0 (hc) ?_ | refine nd ?_ | refine dk ?_ | fail)
        refine ⟨(q + 1, R.set ((l.take q).filter fun x => !p x).length a), ⟨by omega, by dsimp only; omega, by dsimp only; rw [List.length_set, g3], ?_, ?_, by dsimp only; rw [hcl]; omega⟩, by dsimp only; omega, ?_⟩
        · dsimp only
          rw [hcl, hs2, List.take_add_one, List.take_set_of_le (by omega), g4, List.getElem?_set_self (by omega)]
          rfl
        · show (R.set _ a).drop (q + 1) = l.drop (q + 1)
          rw [List.drop_set_of_lt (by omega), ← List.drop_drop, g5, List.drop_drop]
        · try dsimp only
          rw [hcl]
          exact tq [] []
    case neg =>
      obtain rfl : q = l.length := by omega
      rw [List.take_length] at g4 g6 ⊢
      have hcl := List.length_filter_le (fun x => !p x) l
      generalize hL : l.filter (fun x => !p x) = LL at *
      generalize hW : LL.length = W at *
      have hclr : ∃ cs2, setC ((R.flatMap encPo).map AV.fv) (W * 5) ((List.replicate (l.length - W) poZ).flatten) = some cs2 ∧ cs2.take (W * 5) = (LL.flatMap encPo).map .fv := by
        have h6 := setC_mk (cs := (R.flatMap encPo).map AV.fv) (off := W * 5) (us := (List.replicate (l.length - W) poZ).flatten) (by
          rw [List.length_flatten, List.map_replicate, List.sum_replicate_nat, List.length_map, flatMap_len encPo_len, g3]
          show W * 5 + (l.length - W) * 5 ≤ _
          omega)
        refine ⟨_, h6, ?_⟩
        rw [clr_cells h6, ← List.map_take, ← g4]
        congr 1
        have h7 : (R.take W ++ R.drop W).flatMap encPo = R.flatMap encPo := by rw [List.take_append_drop]
        rw [← h7, List.flatMap_append]
        exact List.take_left' (by rw [flatMap_len encPo_len, List.length_take, Nat.min_eq_left (by omega)])
      obtain ⟨cs2, h4, h5⟩ := hclr
      repeat' (first | refine X.loc ?_ | (apply X.clr; (· exact aR); (· exact h4); (· exact aE)) | refine nx ?_ | refine X.cdT ?_ | refine X.cdF ?_ | refine cb ?_ ?_ | (refine cc ?_ ?_ <;> intro hcond) | refine rb ?_ | refine nd ?_ | refine dk ?_ | fail)
      refine .ofL (s' := ⟨[(4, .osl 7)], [(7, .row 69 5 W ((LL.flatMap encPo).map .fv)), (1002, .box 151 [.optr 1000 0]), (1000, .box 153 ((encCf c).map .fv ++ [.fv (.int .i64 ch), .osl 1001])), (1001, .row 108 4 L.length ((L.flatMap encFl).map .fv))]⟩) (.inl rfl) ?_ rfl rfl (by repeat' (first | exact trivial | refine ⟨⟨_, rfl, fun _ _ _ _ h => h⟩, ?_⟩))
      refine St.to [(7, .cut 1003 W)] [] rfl rfl ?_ ?_ <;> (repeat' (first | (first |exact AV.To.cut rfl |exact OB.To.cut rfl rfl (by omega) (by omega) h5 (.maps rfl)) | exact tA | refine t1 ?_ | exact tB | refine t2 ?_ ?_ | refine t3 ?_ | refine t4 ?_ ?_ | refine .ofEq ?_ | refine OB.To.cut rfl rfl ?_ ?_ ?_ ?_ | refine OB.To.box rfl rfl ?_ | refine ⟨⟨_, rfl, ?_⟩, ?_⟩ | refine ⟨?_, ?_⟩ | fail))
set_option maxHeartbeats 4000000 in
theorem here_T (c : Cf) (ch : Int) (L : List Fl) (hl : c.ps.length ≤ 40) : FunO Tryz.prog 130 [.optr 1000 0] [(1000, mkB c ch 1001), (1001, flR L)] (.osl 7) [(7, poR (c.ps.filter fun x => !(x.ch != ch))), (1000, mkB c ch 1001), (1001, flR L)] := by
  have c1 := clonePo_T c.ps (by omega)
  have c2 := deletePoO_T c ch L c.ps (by omega)
  generalize (c.ps.filter fun x => !(x.ch != ch)) = R at *
  refine FunO.bodyL tbl_ok Tryz.func130 rfl (by kernel_rfl) rfl rfl rfl ?_
  unfold mkB flR mkC poR
  unfold mkB flR mkC mkP poR at c2
  repeat' (first | refine X.loc ?_ | refine nx ?_ | refine X.cdT ?_ | refine X.cdF ?_ | refine cb ?_ ?_ | (refine cc ?_ ?_ <;> intro hcond) | refine rb ?_ | refine X.c0 (c1) ?_ | refine X.c0 (c2) ?_ | refine nd ?_ | refine dk ?_ | fail)
  exact rq ⟨[(2, .osl 7)], [(7, .row 69 5 R.length ((R.flatMap encPo).map .fv)), (1000, .box 153 ((encCf c).map .fv ++ [.fv (.int .i64 ch), .osl 1001])), (1001, .row 108 4 L.length ((L.flatMap encFl).map .fv))]⟩ (tq [(7, .id 10)] [])
set_option maxHeartbeats 8000000 in
theorem enters_T (c : Cf) (ch : Int) (L : List Fl) (hps : c.ps.length ≤ 40) (hL : L.length ≤ 100000) : FunO Tryz.prog 98 [.optr 1000 0] [(1000, mkB c ch 1001), (1001, flR L)] (.tup []) [(1000, mkB c ch 7), (7, flR (L ++ entersF (hereF c ch)))] := by
  have c1 := is_T
  have c2 := to_T
  have c3 := put_T
  have a0 := add_T c ch L enter0 (by omega)
  have hh := here_T c ch (L ++ [enter0]) hps
  have hH : (c.ps.filter fun x => !(x.ch != ch)).length ≤ 40 := Nat.le_trans (List.length_filter_le _ _) hps
  show FunO _ _ _ _ _ [(1000, mkB c ch 7), (7, flR (L ++ entersF (c.ps.filter fun x => !(x.ch != ch))))]
  have e0 : ∀ k, L ++ entersF ((c.ps.filter fun x => !(x.ch != ch)).take k) = (L ++ [enter0]) ++ ((c.ps.filter fun x => !(x.ch != ch)).take k).flatMap fun p => [enterA p, enterB_ p] := fun k => by simp [entersF]
  generalize (c.ps.filter fun x => !(x.ch != ch)) = H at *
  refine FunO.bodyL tbl_ok Tryz.func98 rfl (by kernel_rfl) rfl rfl rfl ?_
  unfold mkB flR mkC
  unfold mkB flR mkC at a0
  unfold mkB flR mkC poR at hh
  repeat' (first | (apply X.loE; (· exact aR); (· first | exact .eff (.bsliceFS rfl rfl rfl rfl rfl rfl) | exact .callL rfl rfl rfl (by first | exact c1 _ _ | exact c2 _) rfl | exact bl (c1 _ _) | exact bl (c2 _))) | refine X.loc ?_ | refine nx ?_ | refine X.cdT ?_ | refine X.cdF ?_ | refine cb ?_ ?_ | (refine cc ?_ ?_ <;> intro hcond) | (apply X.gsE; (· exact aR); (· exact aV); (· exact aW); (· intro hc; first | exact .eff (.bsliceFS rfl rfl rfl rfl rfl rfl) | exact .callG rfl rfl rfl (by first | exact c1 _ _ | exact c2 _) rfl | exact bg (c1 _ _) | exact bg (c2 _)); (· exact aR)) | refine rb ?_ | refine X.c0 (a0) ?_ | refine X.c0 (hh) ?_ | refine nd ?_ | refine dk ?_ | fail)
  refine WP.loop (ι := Nat) (fun k => ⟨[(0, .optr 1000 0), (12, .osl 12), (13, .fv (.int .i64 H.length)), (14, .fv (.int .i64 k))], [(1000, .box 153 ((encCf c).map .fv ++ [.fv (.int .i64 ch), .osl 900])), (900, .row 108 4 (L ++ entersF (H.take k)).length (((L ++ entersF (H.take k)).flatMap encFl).map .fv)), (12, .row 69 5 H.length ((H.flatMap encPo).map .fv))]⟩) (fun k => k ≤ H.length) (fun k => H.length - k) 0 (by omega) ?_ ?_
  · try dsimp only
    rw [e0]
    refine St.to [(900, .id 10)] [] rfl rfl ?_ ?_ <;> (repeat' (first | exact tA | refine t1 ?_ | exact tB | refine t2 ?_ ?_ | refine t3 ?_ | refine t4 ?_ ?_ | refine .ofEq ?_ | refine OB.To.cut rfl rfl ?_ ?_ ?_ ?_ | refine OB.To.box rfl rfl ?_ | refine ⟨⟨_, rfl, ?_⟩, ?_⟩ | refine ⟨?_, ?_⟩ | fail))
    all_goals first | omega | (simp; done)
  rintro k hk
  try dsimp only
  have hhl : (H.take k).length ≤ 40 := by rw [List.length_take]; omega
  have hOl : (L ++ entersF (H.take k)).length ≤ 100200 := by
    have := flat_le (f := fun p => [enterA p, enterB_ p]) (n := 2) (fun _ => by simp) (H.take k)
    rw [List.length_append, entersF, List.length_cons]
    omega
  by_cases hlt : k < H.length
  case neg =>
    rw [List.take_of_length_le (by omega)]
    generalize L ++ entersF H = O at *
    repeat' (first | refine X.loc ?_ | refine nx ?_ | refine X.cdT ?_ | refine X.cdF ?_ | refine cb ?_ ?_ | (refine cc ?_ ?_ <;> intro hcond) | refine rb ?_ | refine nd ?_ | refine dk ?_ | fail)
    exact rq ⟨[], [(1000, .box 153 ((encCf c).map .fv ++ [.fv (.int .i64 ch), .osl 7])), (7, .row 108 4 O.length ((O.flatMap encFl).map .fv))]⟩ (tq [(7, .id 900)] [])
  case pos =>
    obtain ⟨x, hx⟩ : ∃ x, H[k]? = some x := ⟨_, List.getElem?_eq_getElem hlt⟩
    have hs : L ++ entersF (H.take (k + 1)) = (L ++ entersF (H.take k)) ++ [enterA x] ++ [enterB_ x] := by
      rw [take_succ hx]
      simp [entersF]
    generalize L ++ entersF (H.take k) = O at *
    have a1 := add_T c ch O (enterA x) (by omega)
    have a2 := add_T c ch (O ++ [enterA x]) (enterB_ x) (by rw [List.length_append]; simp; omega)
    unfold mkB flR mkC at a1 a2
    have cl := cloneOMx_T (enterM x) (by simp [enterM])
    have hM : (enterM x).length = 3 := rfl
    repeat' (first | (apply X.loE; (· exact aR); (· first | exact .eff (.bsliceFS rfl rfl rfl rfl rfl rfl) | (exact .eff (.loadO rfl rfl (readPl (i := k) (by omega) hx))) | exact .callL rfl rfl rfl (by first | exact c1 _ _ | exact c2 _ | exact c3 _ _) rfl | exact bl (c1 _ _) | exact bl (c2 _) | exact bl (c3 _ _))) | refine X.loc ?_ | refine nx ?_ | refine X.cdT ?_ | refine X.cdF ?_ | refine cb ?_ ?_ | (refine cc ?_ ?_ <;> intro hcond) | (apply X.gsE; (· exact aR); (· exact aV); (· exact aW); (· intro hc; first | exact .eff (.bsliceFS rfl rfl rfl rfl rfl rfl) | (exact .eff (.loadO rfl rfl (readPl (i := k) (by omega) hx))) | exact .callG rfl rfl rfl (by first | exact c1 _ _ | exact c2 _ | exact c3 _ _) rfl | exact bg (c1 _ _) | exact bg (c2 _) | exact bg (c3 _ _)); (· exact aR)) | refine rb ?_ | refine X.c0 (cl) ?_ | refine X.c0 (a1) ?_ | refine X.c0 (a2) ?_ | refine nd ?_ | refine dk ?_ | fail)
    refine ⟨k + 1, by omega, by omega, ?_⟩
    try dsimp only
    rw [hs]
    exact tq [(900, .id 51)] []
end Go.Proofs.YtmidechdlbcepaaGreat