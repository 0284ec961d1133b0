import Derived.Test.YtmidechdlbcepaaGreatPack45
import Derived.Test.YtmidechdlbcepaaGreatPack47
import Derived.Test.YtmidechdlbcepaaGreatPack37
set_option linter.unusedSimpArgs false
set_option linter.unusedVariables false
namespace Go.Proofs.YtmidechdlbcepaaGreat
open Go.RowKit
set_option maxRecDepth 100000
theorem Eff.idxSE {T : Tbl} {ρ : Operand → AV} {H : Own} {d : Nat} {α : Type} {enc : α → List FV} {t : Nat} {x y : Operand} {l : List α} {e s b : Nat} {k : IntKind} (i : Nat) {v : Int} {u : α} (h1 : ρ x = .fv (slOf enc l)) (h2 : ρ y = .fv (.int k v)) (hv : v = i) (h3 : lk T.sli t = some (e, s, b)) (hs : ∀ x, (enc x).length = s) (hu : l[i]? = some u) :
    Eff T ρ H d (.indexAddr t x y) (.fptr (enc u)) [] := by
  subst hv
  exact .idxS h1 h2 h3 hs hu
set_option maxHeartbeats 4000000 in
theorem tenant_T (c : Cf) (hc : CfOk c) (id : Int) : Fun Tryz.prog 31 [.agg ((encCf c).map .fv), .fv (.int .i64 id)] (.fv (.int .i64 (tenN c id))) := by
  have hpl := hc.pl
  have hsl := hc.sl
  refine Fun.body tbl_ok Tryz.func31 rfl (by kernel_rfl) rfl rfl rfl ?_
  repeat' (first | refine X.loc ?_ | refine nx ?_ | refine X.cdT ?_ | refine X.cdF ?_ | refine cb ?_ ?_ | (refine cc ?_ ?_ <;> intro hcond) | refine rb ?_ | refine nd ?_ | refine dk ?_ | fail)
  refine WP.loop (ι := Nat) (fun k => ⟨[(1, .fv (.int .i64 id)), (2, .optr 2 0), (10, .fv (slOf encPo c.ps)), (11, .fv (.int .i64 c.ps.length)), (12, .fv (.int .i64 k))], [(2, .box 26 ((encCf c).map .fv))]⟩) (fun k => k ≤ c.ps.length ∧ ∀ x ∈ c.ps.take k, x.id ≠ id) (fun k => c.ps.length - k) 0 ⟨by omega, by simp⟩ ?_ ?_
  · exact tq [] []
  rintro k ⟨hk, hno⟩
  try dsimp only
  by_cases hlt : k < c.ps.length
  case neg =>
    rw [List.take_of_length_le (by omega)] at hno
    have e : tenN c id = 0 := by
      unfold tenN
      cases hpo : poAt c id with
      | none => rfl
      | some q => exact absurd (poAt_mem hpo).2 (hno q (poAt_mem hpo).1)
    rw [e]
    repeat' (first | refine X.loc ?_ | refine nx ?_ | refine X.cdT ?_ | refine X.cdF ?_ | refine cb ?_ ?_ | (refine cc ?_ ?_ <;> intro hcond) | refine rb ?_ | refine nd ?_ | refine dk ?_ | fail)
    exact .f1 (.inl rfl) rfl rfl
  case pos =>
    obtain ⟨x, hx⟩ : ∃ x, c.ps[k]? = some x := ⟨_, List.getElem?_eq_getElem hlt⟩
    have hxm := List.mem_of_getElem? hx
    by_cases hxi : x.id = id
    case neg =>
      repeat' (first | (apply X.loE; (· exact aR); (· first | (exact .eff (.idxS rfl rfl rfl encPo_len hx)))) | refine X.loc ?_ | (refine X.cdT ?_ rfl (by exact bne_iff_ne.2 hxi)) | refine nx ?_ | refine X.cdT ?_ | refine X.cdF ?_ | refine cb ?_ ?_ | (refine cc ?_ ?_ <;> intro hcond) | (apply X.gsE; (· exact aR); (· exact aV); (· exact aW); (· intro hc; first | (exact .eff (.idxS rfl rfl rfl encPo_len hx))); (· exact aR)) | refine rb ?_ | refine nd ?_ | refine dk ?_ | fail)
      refine ⟨k + 1, ⟨by omega, fun y hy => ?_⟩, by omega, ?_⟩
      · rw [List.take_add_one, hx] at hy
        rcases List.mem_append.1 hy with hy | hy
        · exact hno y hy
        · obtain rfl := List.mem_singleton.1 hy
          exact hxi
      try dsimp only
      exact tq [] []
    case pos =>
      have hin := hc.swIn hxm
      have e : tenN c id = (swAt c.ss x.sw).tenant := by
        unfold tenN
        rw [← hxi, poAt_is hc hxm]
      rw [e]
      repeat' (first | (apply X.loE; (· exact aR); (· first | (exact .eff (.idxS rfl rfl rfl encPo_len hx)))) | refine X.loc ?_ | (refine X.cdF ?_ rfl (by exact bne_eq_false_iff_eq.2 hxi)) | refine nx ?_ | refine X.cdT ?_ | refine X.cdF ?_ | refine cb ?_ ?_ | (refine cc ?_ ?_ <;> intro hcond) | (apply X.gsE; (· exact aR); (· exact aV); (· exact aW); (· intro hc; first | (exact .eff (.idxS rfl rfl rfl encPo_len hx))); (· exact aR)) | refine rb ?_ | refine nd ?_ | refine dk ?_ | fail)
      refine WP.loop (ι := Nat) (fun j => ⟨[(6, .optr 901 0), (21, .fv (slOf encSw c.ss)), (22, .fv (.int .i64 c.ss.length)), (23, .fv (.int .i64 j))], [(901, .box 69 ((encPo x).map .fv))]⟩) (fun j => j ≤ c.ss.length ∧ ∀ s ∈ c.ss.take j, s.id ≠ x.sw) (fun j => c.ss.length - j) 0 ⟨by omega, by simp⟩ ?_ ?_
      · exact tq [(901, .id 6)] []
      rintro j ⟨hj, hns⟩
      try dsimp only
      by_cases hlt2 : j < c.ss.length
      case neg =>
        exfalso
        rw [List.take_of_length_le (by omega)] at hns
        exact hns _ hin.1 hin.2
      case pos =>
        obtain ⟨s, hs⟩ : ∃ s, c.ss[j]? = some s := ⟨_, List.getElem?_eq_getElem hlt2⟩
        by_cases hsi : s.id = x.sw
        · have es : swAt c.ss x.sw = s := hc.sid hin.1 (List.mem_of_getElem? hs) (by rw [hin.2, hsi])
          rw [es]
          repeat' (first | (apply X.loE; (· exact aR); (· first | (exact .eff (.idxS rfl rfl rfl encSw_len hs)))) | refine X.loc ?_ | (refine X.cdT ?_ rfl (by exact beq_iff_eq.2 hsi)) | refine nx ?_ | refine X.cdT ?_ | refine X.cdF ?_ | refine cb ?_ ?_ | (refine cc ?_ ?_ <;> intro hcond) | (apply X.gsE; (· exact aR); (· exact aV); (· exact aW); (· intro hc; first | (exact .eff (.idxS rfl rfl rfl encSw_len hs))); (· exact aR)) | refine rb ?_ | refine nd ?_ | refine dk ?_ | fail)
          exact .f1 (.inl rfl) rfl rfl
        · skip
          repeat' (first | (apply X.loE; (· exact aR); (· first | (exact .eff (.idxS rfl rfl rfl encSw_len hs)))) | refine X.loc ?_ | (refine X.cdF ?_ rfl (by exact beq_eq_false_iff_ne.2 hsi)) | refine nx ?_ | refine X.cdT ?_ | refine X.cdF ?_ | refine cb ?_ ?_ | (refine cc ?_ ?_ <;> intro hcond) | (apply X.gsE; (· exact aR); (· exact aV); (· exact aW); (· intro hc; first | (exact .eff (.idxS rfl rfl rfl encSw_len hs))); (· exact aR)) | refine rb ?_ | refine nd ?_ | refine dk ?_ | fail)
          refine ⟨j + 1, ⟨by omega, fun y hy => ?_⟩, by omega, ?_⟩
          · rw [List.take_add_one, hs] at hy
            rcases List.mem_append.1 hy with hy | hy
            · exact hns y hy
            · obtain rfl := List.mem_singleton.1 hy
              exact hsi
          try dsimp only
          exact tq [] []
end Go.Proofs.YtmidechdlbcepaaGreat
namespace Go.Proofs.YtmidechdlbcepaaGreat
open Go.ChangeShapes Go.WideShapes Go.ChangeAt Go.RowKit
set_option maxRecDepth 100000
set_option maxHeartbeats 4000000 in
theorem topTenants_T (l : List Rq) (r : Rq) (hl : ∀ x ∈ l, x.Ok) (ho : r.Ok) : Fun Tryz.prog 9 [.fv (slOf encRq l), .agg ((encRq r).map .fv)] (.fv (.bool true)) := by
  have c0 := frameTells_T
  have c1 := conf_T l 40 hl (by omega)
  have hc := confOf_ok l 40
  generalize confOf l 40 = c at *
  obtain ⟨id, f, c2, hff⟩ := frameK_T c hc r ho
  have c3 := deliver_T c id f hc.small
  have hten := fun x (hx : x ∈ delR c id f) => del_ten hc hx
  have hpw := del_pw (c := c) id f
  have hlen := del_le c id f
  have he := del_err (id := id) hc hff
  have c5 := tenant_T c hc id
  generalize delR c id f = R at *
  generalize delE c id f = e at *
  refine Fun.body tbl_ok Tryz.func9 rfl (by kernel_rfl) rfl rfl rfl ?_
  rcases he with rfl | ⟨rfl, rfl⟩
  case inr =>
    repeat' (first | (apply X.loE; (· exact aR); (· first | exact .callL rfl rfl rfl (by first | exact c0 | exact c1 | exact c2 | exact c3) rfl | exact bl (c0) | exact bl (c1) | exact bl (c2) | exact bl (c3))) | refine X.loc ?_ | refine nx ?_ | refine X.cdT ?_ | refine X.cdF ?_ | refine cb ?_ ?_ | (refine cc ?_ ?_ <;> intro hcond) | (apply X.gsE; (· exact aR); (· exact aV); (· exact aW); (· intro hc; first | exact .callG rfl rfl rfl (by first | exact c0 | exact c1 | exact c2 | exact c3) rfl | exact bg (c0) | exact bg (c1) | exact bg (c2) | exact bg (c3)); (· exact aR)) | refine rb ?_ | refine nd ?_ | refine dk ?_ | fail)
    exact .f1 (.inl rfl) rfl rfl
  case inl =>
    repeat' (first | (apply X.loE; (· exact aR); (· first | exact .callL rfl rfl rfl (by first | exact c0 | exact c1 | exact c2 | exact c3) rfl | exact bl (c0) | exact bl (c1) | exact bl (c2) | exact bl (c3))) | refine X.loc ?_ | refine nx ?_ | refine X.cdT ?_ | refine X.cdF ?_ | refine cb ?_ ?_ | (refine cc ?_ ?_ <;> intro hcond) | (apply X.gsE; (· exact aR); (· exact aV); (· exact aW); (· intro hc; first | exact .callG rfl rfl rfl (by first | exact c0 | exact c1 | exact c2 | exact c3) rfl | exact bg (c0) | exact bg (c1) | exact bg (c2) | exact bg (c3)); (· exact aR)) | refine rb ?_ | refine nd ?_ | refine dk ?_ | fail)
    refine WP.loop (ι := Nat) (fun k => ⟨[(5, .optr 5 0), (6, .fv (.int .i64 id)), (8, .fv (slOf encAr R)), (38, .fv (slOf encAr R)), (39, .fv (.int .i64 R.length)), (40, .fv (.int .i64 k))], [(5, .box 26 ((encCf c).map .fv))]⟩) (fun k => k ≤ R.length) (fun k => R.length - k) 0 (by omega) ?_ ?_
    · exact tq [] []
    rintro k hk
    try dsimp only
    by_cases hlt : k < R.length
    case neg =>
      repeat' (first | refine X.loc ?_ | refine nx ?_ | refine X.cdT ?_ | refine X.cdF ?_ | refine cb ?_ ?_ | (refine cc ?_ ?_ <;> intro hcond) | refine rb ?_ | refine nd ?_ | refine dk ?_ | fail)
      exact .f1 (.inl rfl) rfl rfl
    case pos =>
      obtain ⟨x, hx⟩ : ∃ x, R[k]? = some x := ⟨_, List.getElem?_eq_getElem hlt⟩
      obtain ⟨y, hy⟩ : ∃ y, R[k - 1]? = some y := ⟨_, List.getElem?_eq_getElem (by omega)⟩
      have c4 := tenant_T c hc x.port
      rw [hten x (List.mem_of_getElem? hx)] at c4
      generalize tenN c id = t at *
      have hb : ((t != t) || (decide ((k : Int) > 0) && decide (y.port ≥ x.port))) = false := by
        rw [Bool.or_eq_false_iff]
        refine ⟨by simp, ?_⟩
        by_cases h0 : k = 0
        · subst h0
          simp
        · have hlt2 : y.port < x.port := by
            have h1 := (List.getElem?_eq_some_iff.1 hy)
            have h2 := (List.getElem?_eq_some_iff.1 hx)
            obtain ⟨g1, rfl⟩ := h1
            obtain ⟨g2, rfl⟩ := h2
            exact List.pairwise_iff_getElem.1 hpw (k - 1) k g1 g2 (by omega)
          rw [Bool.and_eq_false_iff]
          right
          exact decide_eq_false (by omega)
      repeat' (first | (apply X.loE; (· exact aR); (· first | (exact .eff (.idxS rfl rfl rfl encAr_len hx)) | (exact .eff (.idxSE (k - 1) rfl rfl (by first |omega |(simp at hc; omega)) rfl encAr_len hy)) | exact .callL rfl rfl rfl (by first | exact c4 | exact c5) rfl | exact bl (c4) | exact bl (c5))) | refine X.loc ?_ | (refine X.cdF ?_ rfl hb) | refine nx ?_ | refine X.cdT ?_ | refine X.cdF ?_ | refine cb ?_ ?_ | (refine cc ?_ ?_ <;> intro hcond) | (apply X.gsE; (· exact aR); (· exact aV); (· exact aW); (· intro hc; first | (exact .eff (.idxS rfl rfl rfl encAr_len hx)) | (exact .eff (.idxSE (k - 1) rfl rfl (by first |omega |(simp at hc; omega)) rfl encAr_len hy)) | exact .callG rfl rfl rfl (by first | exact c4 | exact c5) rfl | exact bg (c4) | exact bg (c5)); (· exact aR)) | refine rb ?_ | refine nd ?_ | refine dk ?_ | fail)
      refine ⟨k + 1, by omega, by omega, ?_⟩
      try dsimp only
      exact tq [] []
theorem topTenants_open {H : Type} {enc : TypeId × Value → H} (W : World) (base : Nat) {v0 v1 : Value} {d0 d1 : DataW H} {p0 p1 : List MemPlace} (hv0 : Value.okWide Tryz.prog W .any base 57 v0)
    (h0 : DataW.Trod enc Tryz.prog W 0 (fun _ => true) true 57 v0 d0 p0) (hs0 : SizedCl Tryz.prog 57 d0) (hv1 : Value.okWide Tryz.prog W .any base 59 v1)
    (h1 : DataW.Trod enc Tryz.prog W 0 (fun _ => true) true 59 v1 d1 p1) (_hs1 : SizedCl Tryz.prog 59 d1) : Calls Tryz.prog 9 #[v0, v1] W fun e W' => e = .returned (.bool true) ∧ Below W.heap.size W W' := by
  obtain ⟨l, hl, _, hr⟩ := open_raws hv0 h0 hs0
  obtain ⟨r, ho, cs, rfl, hc⟩ := open_raw hv1 h1
  exact (topTenants_T l r hl ho).yes ⟨hr, rep_agg hc, trivial⟩
end Go.Proofs.YtmidechdlbcepaaGreat