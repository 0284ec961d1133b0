import Derived.Test.YtmidechdlbcepaaGreatPack47
import Derived.Test.YtmidechdlbcepaaGreatPack48
import Derived.Test.YtmidechdlbcepaaGreatPack37
import Derived.Test.YtmidechdlbcepaaGreatPack45
import Derived.Test.YtmidechdlbcepaaGreatPack39
import Derived.Test.YtmidechdlbcepaaGreatPack35
set_option linter.unusedSimpArgs false
set_option linter.unusedVariables false
namespace Go.Proofs.YtmidechdlbcepaaGreat
open Go.RowKit
set_option maxRecDepth 100000
def actK (c : Cf) (r : Rq) : De := if pick (r.kind.tdiv 16) 3 = 0 then deSe (frK c r).1 (frK c r).2 else if pick (r.kind.tdiv 16) 3 = 1 ∧ pick r.c 2 = 0 then deSy (pick r.b 5) else changeOf r
def actsC (c : Cf) (l : List Rq) : Cf := l.foldl (fun c r => stepC c (actK c r)) c
def actsL : Cf → List Rq → List De
  | _, [] => []
  | c, r :: l => actK c r :: actsL (stepC c (actK c r)) l
theorem actsC_snoc (c : Cf) (l : List Rq) (r : Rq) : actsC c (l ++ [r]) = stepC (actsC c l) (actK (actsC c l) r) := by simp [actsC]
theorem actsL_snoc : ∀ (c : Cf) (l : List Rq) (r : Rq), actsL c (l ++ [r]) = actsL c l ++ [actK (actsC c l) r]
  | c, [], r => rfl
  | c, b :: l, r => by
    rw [List.cons_append, actsL, actsL, actsL_snoc (stepC c (actK c b)) l r]
    rfl
theorem actsL_len : ∀ (c : Cf) (l : List Rq), (actsL c l).length = l.length
  | _, [] => rfl
  | c, b :: l => by rw [actsL, List.length_cons, List.length_cons, actsL_len]
theorem actsC_ok {c : Cf} (hc : CfOk c) (l : List Rq) : CfOk (actsC c l) := by
  induction l generalizing c with
  | nil => exact hc
  | cons r l ih => exact ih (hc.step _)
def actsOf (l : List Rq) (m : Nat) : List De := (conf0 4).ss.map deSw ++ actsL (conf0 4) (l.take m)
theorem actsOf_len (l : List Rq) (m : Nat) : (actsOf l m).length ≤ 12 + m := by
  have h := (conf0_ok 4).sl
  unfold actsOf
  rw [List.length_append, List.length_map, actsL_len, List.length_take]
  omega
theorem step78 {c : Cf} (hc : CfOk c) {a : De} (h : a.kind = 7 ∨ a.kind = 8) : applyE c a = 3 := by
  unfold applyE
  rw [if_neg (by rw [cfMay_iff.2 hc]; simp), if_neg (by omega), if_neg (by omega), if_neg (by omega), if_neg (by omega), if_neg (by omega)]
theorem Fun.nil1 {P : Program} {f : FuncId} {xs : List AV} {r : AV} (h : Fun P f (.fv (.sl [] 0) :: xs) r) : Fun P f (.nil :: xs) r := ⟨h.1, fun σ Z w vs hI hrep => h.2 σ Z w vs hI (by
  cases vs with
  | nil => exact hrep.elim
  | cons v vs => exact ⟨AV.Le.nil _ _ _ _ hrep.1, hrep.2⟩)⟩
set_option maxHeartbeats 16000000 in
theorem acts_T (l : List Rq) (m : Nat) (hok : ∀ r ∈ l, r.Ok) (hm : m ≤ 100) : FunO Tryz.prog 34 [.fv (slOf encRq l), .fv (.int .i64 (m : Int))] [] (.osl 7) [(7, .row 74 28 (actsOf l m).length (((actsOf l m).flatMap encDe).map .fv))] := by
  have c0 : Fun Tryz.prog 29 [.nil, .fv (.int .i64 0)] (.agg ((encCf (conf0 4)).map .fv)) := by
    have := conf_T [] 0 (by simp) (by omega)
    rw [confOf_zero] at this
    exact Fun.nil1 this
  have hc0 := conf0_ok 4
  have hsl := hc0.sl
  have hA : actsOf l m = (conf0 4).ss.map deSw ++ actsL (conf0 4) (l.take m) := rfl
  generalize conf0 4 = c at *
  refine FunO.bodyL tbl_ok Tryz.func34 rfl (by kernel_rfl) rfl rfl rfl ?_
  repeat' (first | (apply X.loE; (· exact aR); (· first | exact .callL rfl rfl rfl (c0) rfl | exact bl (c0))) | refine X.loc ?_ | refine nx ?_ | refine X.cdT ?_ | refine X.cdF ?_ | refine cb ?_ ?_ | (refine cc ?_ ?_ <;> intro hcond) | (apply X.gsE; (· exact aR); (· exact aV); (· exact aW); (· intro hc; first | exact .callG rfl rfl rfl (c0) rfl | exact bg (c0)); (· exact aR)) | refine rb ?_ | refine nd ?_ | refine dk ?_ | fail)
  refine WP.loop (ι := Nat) (fun k => ⟨[(0, .fv (slOf encRq l)), (1, .fv (.int .i64 (m : Int))), (5, .osl 900), (6, .optr 6 0), (18, .fv (slOf encSw c.ss)), (19, .fv (.int .i64 c.ss.length)), (20, .fv (.int .i64 k))], [(6, .box 26 ((encCf c).map .fv)), (900, .row 74 28 ((c.ss.take k).map deSw).length ((((c.ss.take k).map deSw).flatMap encDe).map .fv))]⟩) (fun k => k ≤ c.ss.length) (fun k => c.ss.length - k) 0 (by omega) ?_ ?_
  · try dsimp only
    rw [List.take_zero, List.map_nil]
    exact tq [(900, .nil)] []
  rintro k hk
  try dsimp only
  by_cases hlt : k < c.ss.length
  case pos =>
    obtain ⟨x, hx⟩ : ∃ x, c.ss[k]? = some x := ⟨_, List.getElem?_eq_getElem hlt⟩
    have hs : (c.ss.take (k + 1)).map deSw = (c.ss.take k).map deSw ++ [deSw x] := by
      rw [List.take_add_one, hx, List.map_append]
      rfl
    have hQ : ((c.ss.take k).map deSw).length ≤ 200 := by
      rw [List.length_map, List.length_take]
      omega
    generalize (c.ss.take k).map deSw = Q at *
    repeat' (first | (apply X.loE; (· exact aR); (· first | (exact .eff (.idxS rfl rfl rfl encSw_len hx)))) | refine X.loc ?_ | refine nx ?_ | refine X.cdT ?_ | refine X.cdF ?_ | refine cb ?_ ?_ | (refine cc ?_ ?_ <;> intro hcond) | (apply X.gsE; (· exact aR); (· exact aV); (· exact aW); (· intro hc; first | (exact .eff (.idxS rfl rfl rfl encSw_len hx))); (· exact aR)) | refine rb ?_ | refine nd ?_ | refine dk ?_ | fail)
    refine ⟨k + 1, by omega, by omega, ?_⟩
    try dsimp only
    rw [hs]
    refine St.to [(900, .id 28)] [] rfl rfl ?_ ?_ <;> (repeat' (first | exact tA | refine t1 ?_ | exact tB | refine t2 ?_ ?_ | refine t3 ?_ | refine t4 ?_ ?_ | refine .ofEq ?_ | refine OB.To.cut rfl rfl ?_ ?_ ?_ ?_ | refine OB.To.box rfl rfl ?_ | refine ⟨⟨_, rfl, ?_⟩, ?_⟩ | refine ⟨?_, ?_⟩ | fail))
    all_goals first | omega | (simp; done) | (simp only [List.flatMap_append, List.map_append]; rfl)
  rw [List.take_of_length_le (by omega)]
  have hBl : (c.ss.map deSw).length ≤ 12 := by rw [List.length_map]; exact hsl
  generalize c.ss.map deSw = B at *
  repeat' (first | refine X.loc ?_ | refine nx ?_ | refine X.cdT ?_ | refine X.cdF ?_ | refine cb ?_ ?_ | (refine cc ?_ ?_ <;> intro hcond) | refine rb ?_ | refine nd ?_ | refine dk ?_ | fail)
  refine WP.loop (ι := Nat) (fun k => ⟨[(0, .fv (slOf encRq l)), (1, .fv (.int .i64 (m : Int))), (5, .osl 902), (6, .optr 901 0), (9, .fv (.int .i64 k))], [(901, .box 26 ((encCf (actsC c (l.take k))).map .fv)), (902, .row 74 28 (B ++ actsL c (l.take k)).length (((B ++ actsL c (l.take k)).flatMap encDe).map .fv))]⟩) (fun k => k ≤ l.length ∧ k ≤ m) (fun k => m - k) 0 (by omega) ?_ ?_
  · try dsimp only
    rw [List.take_zero, actsL, List.append_nil, show actsC c [] = c from rfl]
    exact tq [(901, .id 6), (902, .id 900)] []
  rintro k ⟨hk, hkm⟩
  try dsimp only
  by_cases hlt : k < l.length ∧ k < m
  case neg =>
    have e : l.take k = l.take m := by
      rcases Nat.lt_or_ge k m with h | h
      · rw [List.take_of_length_le (by omega), List.take_of_length_le (by omega)]
      · rw [show k = m by omega]
    rw [e, ← hA]
    generalize actsOf l m = W at *
    repeat' (first | refine X.loc ?_ | refine nx ?_ | refine X.cdT ?_ | refine X.cdF ?_ | refine cb ?_ ?_ | (refine cc ?_ ?_ <;> intro hcond) | refine rb ?_ | refine nd ?_ | refine dk ?_ | fail)
    exact rq ⟨[(4, .osl 7)], [(7, .row 74 28 W.length ((W.flatMap encDe).map .fv))]⟩ (tq [(7, .id 902)] [])
  case pos =>
    obtain ⟨x, hx⟩ : ∃ x, l[k]? = some x := ⟨_, List.getElem?_eq_getElem hlt.1⟩
    have hxo := hok x (List.mem_of_getElem? hx)
    have e1 : l.take (k + 1) = l.take k ++ [x] := take_succ hx
    have hcs : actsC c (l.take (k + 1)) = stepC (actsC c (l.take k)) (actK (actsC c (l.take k)) x) := by rw [e1, actsC_snoc]
    have hls : B ++ actsL c (l.take (k + 1)) = (B ++ actsL c (l.take k)) ++ [actK (actsC c (l.take k)) x] := by rw [e1, actsL_snoc, List.append_assoc]
    have hc := actsC_ok hc0 (l.take k)
    have hQ : (B ++ actsL c (l.take k)).length ≤ 200 := by
      rw [List.length_append, actsL_len, List.length_take]
      omega
    generalize (B ++ actsL c (l.take k)) = Q at *
    generalize actsC c (l.take k) = C at *
    have hch := change_T x hxo
    have n0 := hxo.kind
    have n2 := hxo.b
    have n3 := hxo.c
    unfold N64 at n2 n3
    have q16 := quoT_bd n0 (m := 16) (by omega)
    have k1 := picked_T (x.kind.tdiv 16) 3 (by omega) (by omega) (by omega)
    have k2 := picked_T x.c 2 n3.1 n3.2 (by omega)
    have k3 := picked_T x.b 5 n2.1 n2.2 (by omega)
    obtain ⟨id, f, hfr, hF, _⟩ := frameE_T C hc x hxo
    have hcfit := hc.fit
    have hap := fun a => apply_T C a hcfit
    have h78 := fun a h => step78 hc (a := a) h
    unfold actK at hcs hls
    generalize changeOf x = B1 at *
    generalize pick (x.kind.tdiv 16) 3 = v at *
    generalize pick x.c 2 = c2 at *
    generalize pick x.b 5 = b5 at *
    rw [hfr] at hcs hls
    dsimp only at hcs hls
    by_cases v0 : v = 0
    · rw [if_pos v0] at hcs hls
      have ha := hap (deSe id f)
      have h3 := h78 (deSe id f) (.inr rfl)
      unfold stepC at hcs
      rw [h3, if_neg (by decide)] at hcs
      rw [h3] at ha
      generalize applyR C (deSe id f) = R at *
      repeat' (first | (apply X.loE; (· exact aR); (· first | (refine .eff (.quoT rfl rfl ?_ ?_) <;> first | assumption | omega) | (exact .eff (.idxS rfl rfl rfl encRq_len hx)) | exact .callL rfl rfl rfl (by first | exact hch | exact k1 | exact k2 | exact k3 | exact hF | exact ha) rfl | exact bl (hch) | exact bl (k1) | exact bl (k2) | exact bl (k3) | exact bl (hF) | exact bl (ha))) | refine X.loc ?_ | refine nx ?_ | refine X.cdT ?_ | refine X.cdF ?_ | refine cb ?_ ?_ | (refine cc ?_ ?_ <;> intro hcond) | (apply X.gsE; (· exact aR); (· exact aV); (· exact aW); (· intro hc; first | (refine .eff (.quoT rfl rfl ?_ ?_) <;> first | assumption | omega) | (exact .eff (.idxS rfl rfl rfl encRq_len hx)) | exact .callG rfl rfl rfl (by first | exact hch | exact k1 | exact k2 | exact k3 | exact hF | exact ha) rfl | exact bg (hch) | exact bg (k1) | exact bg (k2) | exact bg (k3) | exact bg (hF) | exact bg (ha)); (· exact aR)) | refine rb ?_ | refine nd ?_ | refine dk ?_ | fail)
      refine ⟨k + 1, by omega, by omega, ?_⟩
      try dsimp only
      rw [hcs, hls]
      refine St.to [(902, .id 84)] [] rfl rfl ?_ ?_ <;> (repeat' (first | exact tA | refine t1 ?_ | exact tB | refine t2 ?_ ?_ | refine t3 ?_ | refine t4 ?_ ?_ | refine .ofEq ?_ | refine OB.To.cut rfl rfl ?_ ?_ ?_ ?_ | refine OB.To.box rfl rfl ?_ | refine ⟨⟨_, rfl, ?_⟩, ?_⟩ | refine ⟨?_, ?_⟩ | fail))
      all_goals first | omega | (simp; done) | (simp only [List.flatMap_append, List.map_append]; rfl)
    rw [if_neg v0] at hcs hls
    by_cases v1 : v = 1 ∧ c2 = 0
    · rw [if_pos v1] at hcs hls
      have ha := hap (deSy b5)
      have h3 := h78 (deSy b5) (.inl rfl)
      unfold stepC at hcs
      rw [h3, if_neg (by decide)] at hcs
      rw [h3] at ha
      generalize applyR C (deSy b5) = R at *
      have v11 := v1.1
      have v12 := v1.2
      repeat' (first | (apply X.loE; (· exact aR); (· first | (refine .eff (.quoT rfl rfl ?_ ?_) <;> first | assumption | omega) | (exact .eff (.idxS rfl rfl rfl encRq_len hx)) | exact .callL rfl rfl rfl (by first | exact hch | exact k1 | exact k2 | exact k3 | exact ha) rfl | exact bl (hch) | exact bl (k1) | exact bl (k2) | exact bl (k3) | exact bl (ha))) | refine X.loc ?_ | refine nx ?_ | refine X.cdT ?_ | refine X.cdF ?_ | refine cb ?_ ?_ | (refine cc ?_ ?_ <;> intro hcond) | (apply X.gsE; (· exact aR); (· exact aV); (· exact aW); (· intro hc; first | (refine .eff (.quoT rfl rfl ?_ ?_) <;> first | assumption | omega) | (exact .eff (.idxS rfl rfl rfl encRq_len hx)) | exact .callG rfl rfl rfl (by first | exact hch | exact k1 | exact k2 | exact k3 | exact ha) rfl | exact bg (hch) | exact bg (k1) | exact bg (k2) | exact bg (k3) | exact bg (ha)); (· exact aR)) | refine rb ?_ | refine nd ?_ | refine dk ?_ | fail)
      refine ⟨k + 1, by omega, by omega, ?_⟩
      try dsimp only
      rw [hcs, hls]
      refine St.to [(902, .id 84)] [] rfl rfl ?_ ?_ <;> (repeat' (first | exact tA | refine t1 ?_ | exact tB | refine t2 ?_ ?_ | refine t3 ?_ | refine t4 ?_ ?_ | refine .ofEq ?_ | refine OB.To.cut rfl rfl ?_ ?_ ?_ ?_ | refine OB.To.box rfl rfl ?_ | refine ⟨⟨_, rfl, ?_⟩, ?_⟩ | refine ⟨?_, ?_⟩ | fail))
      all_goals first | omega | (simp; done) | (simp only [List.flatMap_append, List.map_append]; rfl)
    rw [if_neg v1] at hcs hls
    have ha := hap B1
    unfold stepC at hcs
    generalize applyR C B1 = R at *
    generalize applyE C B1 = e at *
    by_cases v11 : v = 1
    · have v12 : c2 ≠ 0 := fun h => v1 ⟨v11, h⟩
      by_cases he : e = 0
      · rw [if_pos he] at hcs
        subst he
        repeat' (first | (apply X.loE; (· exact aR); (· first | (refine .eff (.quoT rfl rfl ?_ ?_) <;> first | assumption | omega) | (exact .eff (.idxS rfl rfl rfl encRq_len hx)) | exact .callL rfl rfl rfl (by first | exact hch | exact k1 | exact k2 | exact k3 | exact ha) rfl | exact bl (hch) | exact bl (k1) | exact bl (k2) | exact bl (k3) | exact bl (ha))) | refine X.loc ?_ | refine nx ?_ | refine X.cdT ?_ | refine X.cdF ?_ | refine cb ?_ ?_ | (refine cc ?_ ?_ <;> intro hcond) | (apply X.gsE; (· exact aR); (· exact aV); (· exact aW); (· intro hc; first | (refine .eff (.quoT rfl rfl ?_ ?_) <;> first | assumption | omega) | (exact .eff (.idxS rfl rfl rfl encRq_len hx)) | exact .callG rfl rfl rfl (by first | exact hch | exact k1 | exact k2 | exact k3 | exact ha) rfl | exact bg (hch) | exact bg (k1) | exact bg (k2) | exact bg (k3) | exact bg (ha)); (· exact aR)) | refine rb ?_ | refine nd ?_ | refine dk ?_ | fail)
        refine ⟨k + 1, by omega, by omega, ?_⟩
        try dsimp only
        rw [hcs, hls]
        refine St.to [(902, .id 84)] [] rfl rfl ?_ ?_ <;> (repeat' (first | exact tA | refine t1 ?_ | exact tB | refine t2 ?_ ?_ | refine t3 ?_ | refine t4 ?_ ?_ | refine .ofEq ?_ | refine OB.To.cut rfl rfl ?_ ?_ ?_ ?_ | refine OB.To.box rfl rfl ?_ | refine ⟨⟨_, rfl, ?_⟩, ?_⟩ | refine ⟨?_, ?_⟩ | fail))
        all_goals first | omega | (simp; done) | (simp only [List.flatMap_append, List.map_append]; rfl)
      · rw [if_neg he] at hcs
        repeat' (first | (apply X.loE; (· exact aR); (· first | (refine .eff (.quoT rfl rfl ?_ ?_) <;> first | assumption | omega) | (exact .eff (.idxS rfl rfl rfl encRq_len hx)) | exact .callL rfl rfl rfl (by first | exact hch | exact k1 | exact k2 | exact k3 | exact ha) rfl | exact bl (hch) | exact bl (k1) | exact bl (k2) | exact bl (k3) | exact bl (ha))) | refine X.loc ?_ | refine nx ?_ | refine X.cdT ?_ | refine X.cdF ?_ | refine cb ?_ ?_ | (refine cc ?_ ?_ <;> intro hcond) | (apply X.gsE; (· exact aR); (· exact aV); (· exact aW); (· intro hc; first | (refine .eff (.quoT rfl rfl ?_ ?_) <;> first | assumption | omega) | (exact .eff (.idxS rfl rfl rfl encRq_len hx)) | exact .callG rfl rfl rfl (by first | exact hch | exact k1 | exact k2 | exact k3 | exact ha) rfl | exact bg (hch) | exact bg (k1) | exact bg (k2) | exact bg (k3) | exact bg (ha)); (· exact aR)) | refine rb ?_ | refine nd ?_ | refine dk ?_ | fail)
        refine ⟨k + 1, by omega, by omega, ?_⟩
        try dsimp only
        rw [hcs, hls]
        refine St.to [(902, .id 84)] [] rfl rfl ?_ ?_ <;> (repeat' (first | exact tA | refine t1 ?_ | exact tB | refine t2 ?_ ?_ | refine t3 ?_ | refine t4 ?_ ?_ | refine .ofEq ?_ | refine OB.To.cut rfl rfl ?_ ?_ ?_ ?_ | refine OB.To.box rfl rfl ?_ | refine ⟨⟨_, rfl, ?_⟩, ?_⟩ | refine ⟨?_, ?_⟩ | fail))
        all_goals first | omega | (simp; done) | (simp only [List.flatMap_append, List.map_append]; rfl)
    · by_cases he : e = 0
      · rw [if_pos he] at hcs
        subst he
        repeat' (first | (apply X.loE; (· exact aR); (· first | (refine .eff (.quoT rfl rfl ?_ ?_) <;> first | assumption | omega) | (exact .eff (.idxS rfl rfl rfl encRq_len hx)) | exact .callL rfl rfl rfl (by first | exact hch | exact k1 | exact k2 | exact k3 | exact ha) rfl | exact bl (hch) | exact bl (k1) | exact bl (k2) | exact bl (k3) | exact bl (ha))) | refine X.loc ?_ | refine nx ?_ | refine X.cdT ?_ | refine X.cdF ?_ | refine cb ?_ ?_ | (refine cc ?_ ?_ <;> intro hcond) | (apply X.gsE; (· exact aR); (· exact aV); (· exact aW); (· intro hc; first | (refine .eff (.quoT rfl rfl ?_ ?_) <;> first | assumption | omega) | (exact .eff (.idxS rfl rfl rfl encRq_len hx)) | exact .callG rfl rfl rfl (by first | exact hch | exact k1 | exact k2 | exact k3 | exact ha) rfl | exact bg (hch) | exact bg (k1) | exact bg (k2) | exact bg (k3) | exact bg (ha)); (· exact aR)) | refine rb ?_ | refine nd ?_ | refine dk ?_ | fail)
        refine ⟨k + 1, by omega, by omega, ?_⟩
        try dsimp only
        rw [hcs, hls]
        refine St.to [(902, .id 84)] [] rfl rfl ?_ ?_ <;> (repeat' (first | exact tA | refine t1 ?_ | exact tB | refine t2 ?_ ?_ | refine t3 ?_ | refine t4 ?_ ?_ | refine .ofEq ?_ | refine OB.To.cut rfl rfl ?_ ?_ ?_ ?_ | refine OB.To.box rfl rfl ?_ | refine ⟨⟨_, rfl, ?_⟩, ?_⟩ | refine ⟨?_, ?_⟩ | fail))
        all_goals first | omega | (simp; done) | (simp only [List.flatMap_append, List.map_append]; rfl)
      · rw [if_neg he] at hcs
        repeat' (first | (apply X.loE; (· exact aR); (· first | (refine .eff (.quoT rfl rfl ?_ ?_) <;> first | assumption | omega) | (exact .eff (.idxS rfl rfl rfl encRq_len hx)) | exact .callL rfl rfl rfl (by first | exact hch | exact k1 | exact k2 | exact k3 | exact ha) rfl | exact bl (hch) | exact bl (k1) | exact bl (k2) | exact bl (k3) | exact bl (ha))) | refine X.loc ?_ | refine nx ?_ | refine X.cdT ?_ | refine X.cdF ?_ | refine cb ?_ ?_ | (refine cc ?_ ?_ <;> intro hcond) | (apply X.gsE; (· exact aR); (· exact aV); (· exact aW); (· intro hc; first | (refine .eff (.quoT rfl rfl ?_ ?_) <;> first | assumption | omega) | (exact .eff (.idxS rfl rfl rfl encRq_len hx)) | exact .callG rfl rfl rfl (by first | exact hch | exact k1 | exact k2 | exact k3 | exact ha) rfl | exact bg (hch) | exact bg (k1) | exact bg (k2) | exact bg (k3) | exact bg (ha)); (· exact aR)) | refine rb ?_ | refine nd ?_ | refine dk ?_ | fail)
        refine ⟨k + 1, by omega, by omega, ?_⟩
        try dsimp only
        rw [hcs, hls]
        refine St.to [(902, .id 84)] [] rfl rfl ?_ ?_ <;> (repeat' (first | exact tA | refine t1 ?_ | exact tB | refine t2 ?_ ?_ | refine t3 ?_ | refine t4 ?_ ?_ | refine .ofEq ?_ | refine OB.To.cut rfl rfl ?_ ?_ ?_ ?_ | refine OB.To.box rfl rfl ?_ | refine ⟨⟨_, rfl, ?_⟩, ?_⟩ | refine ⟨?_, ?_⟩ | fail))
        all_goals first | omega | (simp; done) | (simp only [List.flatMap_append, List.map_append]; rfl)
theorem actsF_T (l : List Rq) (m : Nat) (hok : ∀ r ∈ l, r.Ok) (hm : m ≤ 100) : Fun Tryz.prog 34 [.fv (slOf encRq l), .fv (.int .i64 (m : Int))] (.fv (slOf encDe (actsOf l m))) :=
  (acts_T l m hok hm).froz [7] (.frz rfl rfl rfl)
theorem set6 {K : Kn} (h : K.length = 6) (c : Cf) : ((((((K.set 0 (some c)).set 1 (some c)).set 2 (some c)).set 3 (some c)).set 4 (some c)).set 5 (some c)) = K6 c := by
  match K, h with
  | [a0, a1, a2, a3, a4, a5], _ => rfl
theorem allA_is : allA = [deSy 0, deSy 1, deSy 2, deSy 3, deSy 4, deSy 5] := rfl
theorem act_sync (s : Fb) {n : Nat} (hn : n < 6) : actS s (deSy n) = ⟨s.c, s.K.set n (some s.c)⟩ := by
  have h7 : (deSy (n : Int)).kind = 7 := rfl
  have hk : (deSy (n : Int)).n = (n : Int) := rfl
  unfold actS
  rw [if_pos h7, hk, if_neg (by omega), Int.toNat_natCast]
theorem runS_all {s : Fb} (h : s.K.length = 6) : runS s allA = ⟨s.c, K6 s.c⟩ := by
  rw [allA_is]
  show actS (actS (actS (actS (actS (actS s (deSy (0 : Nat))) (deSy (1 : Nat))) (deSy (2 : Nat))) (deSy (3 : Nat))) (deSy (4 : Nat))) (deSy (5 : Nat)) = _
  rw [act_sync s (by omega), act_sync _ (by omega), act_sync _ (by omega), act_sync _ (by omega), act_sync _ (by omega), act_sync _ (by omega)]
  dsimp only
  rw [set6 h]
theorem settled {c : Cf} (hc : CfOk c) (id : Int) (f : Fr) : actR ⟨c, K6 c⟩ (deSe id f) = ⟨delE c id f, delR c id f⟩ := by
  have h7 : (deSe id f).kind ≠ 7 := by show (8 : Int) ≠ 7; decide
  have h8 : (deSe id f).kind = 8 := rfl
  unfold actR
  rw [if_neg h7, if_pos h8]
  show (⟨repE c id f, repR c (K6 c) id f⟩ : Rep) = _
  unfold repE repR delE delR
  rw [if_neg (by rw [cfMay_iff.2 hc]; simp), if_neg (by rw [cfMay_iff.2 hc]; simp)]
  cases poAt c id with
  | none => rfl
  | some q => rfl
def addedB (l : List De) (n : Int) : Bool := l.any fun a => a.kind == 2 && a.po.id == n
theorem step_ids {c : Cf} {a : De} {p : Po} (h : p ∈ (stepC c a).ps) : (∃ q ∈ c.ps, q.id = p.id) ∨ (a.kind = 2 ∧ p.id = a.po.id) := by
  rcases stepC_ps h with h2 | ⟨h2, rfl⟩ | ⟨q, hq, rfl⟩
  · exact .inl ⟨p, h2, rfl⟩
  · exact .inr ⟨h2, rfl⟩
  · exact .inl ⟨q, hq, rfl⟩
structure Added (l : List De) (s : Fb) : Prop where
  c : ∀ p ∈ s.c.ps, addedB l p.id = true
  k : ∀ x, some x ∈ s.K → ∀ p ∈ x.ps, addedB l p.id = true
theorem added_snoc {l : List De} {n : Int} (a : De) (h : addedB l n = true) : addedB (l ++ [a]) n = true := by
  unfold addedB at *
  rw [List.any_append, h, Bool.true_or]
theorem Added.step {l : List De} {s : Fb} (h : Added l s) (a : De) : Added (l ++ [a]) (actS s a) := by
  unfold actS
  split
  · split
    · exact ⟨fun p hp => added_snoc a (h.c p hp), fun x hx p hp => added_snoc a (h.k x hx p hp)⟩
    · refine ⟨fun p hp => added_snoc a (h.c p hp), fun x hx p hp => ?_⟩
      rcases List.mem_or_eq_of_mem_set hx with hx | hx
      · exact added_snoc a (h.k x hx p hp)
      · obtain rfl := Option.some.inj hx
        exact added_snoc a (h.c p hp)
  · split
    · exact ⟨fun p hp => added_snoc a (h.c p hp), fun x hx p hp => added_snoc a (h.k x hx p hp)⟩
    · refine ⟨fun p hp => ?_, fun x hx p hp => added_snoc a (h.k x hx p hp)⟩
      rcases step_ids hp with ⟨q, hq, e⟩ | ⟨hk, e⟩
      · rw [← e]
        exact added_snoc a (h.c q hq)
      · unfold addedB
        rw [List.any_append]
        simp [hk, e]
theorem Added.run : ∀ (m l : List De) {s : Fb}, Added l s → Added (l ++ m) (runS s m)
  | [], l, s, h => by rw [List.append_nil]; exact h
  | a :: m, l, s, h => by
    have := Added.run m (l ++ [a]) (h.step a)
    rw [List.append_assoc] at this
    exact this
theorem added0 (l : List De) : Added l (runS fb0 l) := by
  have := Added.run l [] (s := fb0) ⟨fun p hp => by simp [fb0, cf0] at hp, fun x hx p hp => by simp [fb0] at hx⟩
  exact this
theorem stale {l : List De} {a : De} {x : Ar} (hx : x ∈ (actR (runS fb0 l) a).come) : a.kind = 8 ∧ addedB l x.port = true ∧ x.is.kind ≠ 1 := by
  have hok := runS_ok fb0_ok l
  have had := added0 l
  unfold actR at hx
  split at hx
  · simp at hx
  · split at hx
    · rename_i h8
      refine ⟨h8, ?_⟩
      dsimp only at hx
      unfold repR at hx
      split at hx
      · simp at hx
      · rename_i q hpo
        split at hx
        · simp at hx
        · rename_i h0
          split at hx
          · simp at hx
          · rename_i hff
            have hff0 : frameFault a.fr = 0 := by
              by_cases h : frameFault a.fr = 0
              · exact h
              · exact absurd h (by simpa using hff)
            obtain ⟨hq, _⟩ := poAt_mem hpo
            have hqr := (hok.c.pg q hq).1
            unfold PoR at hqr
            obtain ⟨g, hg, hx⟩ := sent_led hx
            have hgo := led_ok (hok.k.cf q.ch) (by omega) hff0 hg
            have hport := arrG_port hx
            obtain ⟨_, _, _, hkind, p2, hp2, hpo2, _, _⟩ := hgo
            constructor
            · rw [hport]
              obtain ⟨hp3, hid3⟩ := poAt_mem hpo2
              rw [← hid3]
              unfold cfAt cfK at hp3
              cases hK : (runS fb0 l).K.getD q.ch.toNat none with
              | none =>
                rw [hK] at hp3
                simp [cf0] at hp3
              | some c2 =>
                rw [hK] at hp3
                refine had.k c2 ?_ p2 hp3
                rw [List.getD_eq_getElem?_getD] at hK
                cases hK2 : (runS fb0 l).K[q.ch.toNat]? with
                | none => rw [hK2] at hK; cases hK
                | some y =>
                  rw [hK2] at hK
                  have : y = some c2 := hK
                  rw [← this]
                  exact List.mem_of_getElem? hK2
            · have : x.is = g.is := by
                unfold arrG at hx
                split at hx
                · split at hx
                  · obtain rfl := List.mem_singleton.1 hx
                    rfl
                  · simp at hx
                · simp at hx
              rw [this]
              omega
    · simp at hx
theorem Eff.idxSE {T : Tbl} {ρ : Operand → AV} {H : Own} {d : Nat} {α : Type} {enc : α → List FV} {t : Nat} {x y : Operand} {l : List α} {e s b : Nat} {k : IntKind} (i : Nat) {v : Int} {u : α} (h1 : ρ x = .fv (slOf enc l)) (h2 : ρ y = .fv (.int k v)) (hv : v = i) (h3 : lk T.sli t = some (e, s, b)) (hs : ∀ x, (enc x).length = s) (hu : l[i]? = some u) :
    Eff T ρ H d (.indexAddr t x y) (.fptr (enc u)) [] := by
  subst hv
  exact .idxS h1 h2 h3 hs hu
set_option maxHeartbeats 4000000 in
theorem tenant_T (c : Cf) (hc : CfOk c) (id : Int) : Fun Tryz.prog 31 [.agg ((encCf c).map .fv), .fv (.int .i64 id)] (.fv (.int .i64 (tenN c id))) := by
  have hpl := hc.pl
  have hsl := hc.sl
  refine Fun.body tbl_ok Tryz.func31 rfl (by kernel_rfl) rfl rfl rfl ?_
  repeat' (first | refine X.loc ?_ | refine nx ?_ | refine X.cdT ?_ | refine X.cdF ?_ | refine cb ?_ ?_ | (refine cc ?_ ?_ <;> intro hcond) | refine rb ?_ | refine nd ?_ | refine dk ?_ | fail)
  refine WP.loop (ι := Nat) (fun k => ⟨[(1, .fv (.int .i64 id)), (2, .optr 2 0), (10, .fv (slOf encPo c.ps)), (11, .fv (.int .i64 c.ps.length)), (12, .fv (.int .i64 k))], [(2, .box 26 ((encCf c).map .fv))]⟩) (fun k => k ≤ c.ps.length ∧ ∀ x ∈ c.ps.take k, x.id ≠ id) (fun k => c.ps.length - k) 0 ⟨by omega, by simp⟩ ?_ ?_
  · exact tq [] []
  rintro k ⟨hk, hno⟩
  try dsimp only
  by_cases hlt : k < c.ps.length
  case neg =>
    rw [List.take_of_length_le (by omega)] at hno
    have e : tenN c id = 0 := by
      unfold tenN
      cases hpo : poAt c id with
      | none => rfl
      | some q => exact absurd (poAt_mem hpo).2 (hno q (poAt_mem hpo).1)
    rw [e]
    repeat' (first | refine X.loc ?_ | refine nx ?_ | refine X.cdT ?_ | refine X.cdF ?_ | refine cb ?_ ?_ | (refine cc ?_ ?_ <;> intro hcond) | refine rb ?_ | refine nd ?_ | refine dk ?_ | fail)
    exact .f1 (.inl rfl) rfl rfl
  case pos =>
    obtain ⟨x, hx⟩ : ∃ x, c.ps[k]? = some x := ⟨_, List.getElem?_eq_getElem hlt⟩
    have hxm := List.mem_of_getElem? hx
    by_cases hxi : x.id = id
    case neg =>
      repeat' (first | (apply X.loE; (· exact aR); (· first | (exact .eff (.idxS rfl rfl rfl encPo_len hx)))) | refine X.loc ?_ | (refine X.cdT ?_ rfl (by exact bne_iff_ne.2 hxi)) | refine nx ?_ | refine X.cdT ?_ | refine X.cdF ?_ | refine cb ?_ ?_ | (refine cc ?_ ?_ <;> intro hcond) | (apply X.gsE; (· exact aR); (· exact aV); (· exact aW); (· intro hc; first | (exact .eff (.idxS rfl rfl rfl encPo_len hx))); (· exact aR)) | refine rb ?_ | refine nd ?_ | refine dk ?_ | fail)
      refine ⟨k + 1, ⟨by omega, fun y hy => ?_⟩, by omega, ?_⟩
      · rw [List.take_add_one, hx] at hy
        rcases List.mem_append.1 hy with hy | hy
        · exact hno y hy
        · obtain rfl := List.mem_singleton.1 hy
          exact hxi
      try dsimp only
      exact tq [] []
    case pos =>
      have hin := hc.swIn hxm
      have e : tenN c id = (swAt c.ss x.sw).tenant := by
        unfold tenN
        rw [← hxi, poAt_is hc hxm]
      rw [e]
      repeat' (first | (apply X.loE; (· exact aR); (· first | (exact .eff (.idxS rfl rfl rfl encPo_len hx)))) | refine X.loc ?_ | (refine X.cdF ?_ rfl (by exact bne_eq_false_iff_eq.2 hxi)) | refine nx ?_ | refine X.cdT ?_ | refine X.cdF ?_ | refine cb ?_ ?_ | (refine cc ?_ ?_ <;> intro hcond) | (apply X.gsE; (· exact aR); (· exact aV); (· exact aW); (· intro hc; first | (exact .eff (.idxS rfl rfl rfl encPo_len hx))); (· exact aR)) | refine rb ?_ | refine nd ?_ | refine dk ?_ | fail)
      refine WP.loop (ι := Nat) (fun j => ⟨[(6, .optr 901 0), (21, .fv (slOf encSw c.ss)), (22, .fv (.int .i64 c.ss.length)), (23, .fv (.int .i64 j))], [(901, .box 69 ((encPo x).map .fv))]⟩) (fun j => j ≤ c.ss.length ∧ ∀ s ∈ c.ss.take j, s.id ≠ x.sw) (fun j => c.ss.length - j) 0 ⟨by omega, by simp⟩ ?_ ?_
      · exact tq [(901, .id 6)] []
      rintro j ⟨hj, hns⟩
      try dsimp only
      by_cases hlt2 : j < c.ss.length
      case neg =>
        exfalso
        rw [List.take_of_length_le (by omega)] at hns
        exact hns _ hin.1 hin.2
      case pos =>
        obtain ⟨s, hs⟩ : ∃ s, c.ss[j]? = some s := ⟨_, List.getElem?_eq_getElem hlt2⟩
        by_cases hsi : s.id = x.sw
        · have es : swAt c.ss x.sw = s := hc.sid hin.1 (List.mem_of_getElem? hs) (by rw [hin.2, hsi])
          rw [es]
          repeat' (first | (apply X.loE; (· exact aR); (· first | (exact .eff (.idxS rfl rfl rfl encSw_len hs)))) | refine X.loc ?_ | (refine X.cdT ?_ rfl (by exact beq_iff_eq.2 hsi)) | refine nx ?_ | refine X.cdT ?_ | refine X.cdF ?_ | refine cb ?_ ?_ | (refine cc ?_ ?_ <;> intro hcond) | (apply X.gsE; (· exact aR); (· exact aV); (· exact aW); (· intro hc; first | (exact .eff (.idxS rfl rfl rfl encSw_len hs))); (· exact aR)) | refine rb ?_ | refine nd ?_ | refine dk ?_ | fail)
          exact .f1 (.inl rfl) rfl rfl
        · skip
          repeat' (first | (apply X.loE; (· exact aR); (· first | (exact .eff (.idxS rfl rfl rfl encSw_len hs)))) | refine X.loc ?_ | (refine X.cdF ?_ rfl (by exact beq_eq_false_iff_ne.2 hsi)) | refine nx ?_ | refine X.cdT ?_ | refine X.cdF ?_ | refine cb ?_ ?_ | (refine cc ?_ ?_ <;> intro hcond) | (apply X.gsE; (· exact aR); (· exact aV); (· exact aW); (· intro hc; first | (exact .eff (.idxS rfl rfl rfl encSw_len hs))); (· exact aR)) | refine rb ?_ | refine nd ?_ | refine dk ?_ | fail)
          refine ⟨j + 1, ⟨by omega, fun y hy => ?_⟩, by omega, ?_⟩
          · rw [List.take_add_one, hs] at hy
            rcases List.mem_append.1 hy with hy | hy
            · exact hns y hy
            · obtain rfl := List.mem_singleton.1 hy
              exact hsi
          try dsimp only
          exact tq [] []
theorem Eff.sliHS {T : Tbl} {ρ : Operand → AV} {H : Own} {d : Nat} {α : Type} {enc : α → List FV} {t : Nat} {x hi : Operand} {l : List α} {e s b : Nat} {h : Nat} {k' : IntKind} (h1 : ρ x = .fv (slOf enc l)) (h2 : ρ hi = .fv (.int k' h)) (h3 : lk T.sli t = some (e, s, b)) (hs : ∀ x, (enc x).length = s) (hl : h ≤ l.length) :
    Eff T ρ H d (.slice t x none (some hi) none) (.fv (slOf enc (l.take h))) [] := by
  have := Eff.sliH (T := T) (H := H) (d := d) h1 h2 h3 hl (flatMap_len hs l)
  rw [flatMap_take hs] at this
  have e1 : slOf enc (l.take h) = .sl ((l.take h).flatMap enc) h := by
    show FV.sl _ (l.take h).length = _
    rw [List.length_take, Nat.min_eq_left hl]
  rw [e1]
  exact this
theorem idxDe_T {F : Nat} {c : AV} (l : List De) (p : De → Bool) (hp : ∀ x ∈ l, Fun Tryz.prog F [.agg ((encDe x).map .fv), c] (.fv (.bool (p x)))) (hl : l.length < 9223372036854775807) : Fun Tryz.prog 66 [.fv (slOf encDe l), .fn F [c]] (.fv (.int .i64 (idxB p l))) := by
  refine Fun.body tbl_ok Tryz.func66 rfl (by kernel_rfl) rfl rfl rfl ?_
  repeat' (first | refine X.loc ?_ | refine nx ?_ | refine cb ?_ ?_ | (refine cc ?_ ?_ <;> intro hcond) | refine rb ?_ | refine nd ?_ | refine dk ?_ | fail)
  refine WP.loop (ι := Nat) (fun k => ⟨[(0, .fv (slOf encDe l)), (1, .fn F [c]), (7, .fv (.int .i64 l.length)), (8, .fv (.int .i64 k))], []⟩) (fun k => k ≤ l.length ∧ ∀ x ∈ l.take k, p x = false) (fun k => l.length - k) 0 ⟨by omega, by simp⟩ ?_ ?_
  · exact lq
  rintro k ⟨hk, hd⟩
  try dsimp only
  by_cases hlt : k < l.length
  case neg =>
    rw [List.take_of_length_le (by omega)] at hd
    rw [idxB_none p l hd]
    repeat' (first | refine X.loc ?_ | refine nx ?_ | refine X.cdT ?_ | refine X.cdF ?_ | refine cb ?_ ?_ | (refine cc ?_ ?_ <;> intro hcond) | refine rb ?_ | refine nd ?_ | refine dk ?_ | fail)
    exact .f1 (.inl rfl) rfl rfl
  case pos =>
    obtain ⟨x, hx⟩ : ∃ x, l[k]? = some x := ⟨_, List.getElem?_eq_getElem hlt⟩
    have hc := hp x (List.mem_of_getElem? hx)
    cases hpx : p x with
    | true =>
      rw [hpx] at hc
      rw [idxB_take p l k hd (fun y hy => by rw [hx] at hy; obtain rfl := Option.some.inj hy; exact hpx) hlt]
      repeat' (first | (apply X.loE; (· exact aR); (· first | exact .callL rfl rfl rfl (hc) rfl | exact bl (hc))) | refine X.loc ?_ | refine nx ?_ | refine X.cdT ?_ | refine X.cdF ?_ | refine cb ?_ ?_ | (refine cc ?_ ?_ <;> intro hcond) | (apply X.gsE; (· exact aR); (· exact aV); (· exact aW); (· intro hc; first | exact .callG rfl rfl rfl (hc) rfl | exact bg (hc)); (· exact aR)) | refine rb ?_ | refine nd ?_ | refine dk ?_ | fail)
      exact .f1 (.inl rfl) rfl rfl
    | false =>
      rw [hpx] at hc
      repeat' (first | (apply X.loE; (· exact aR); (· first | exact .callL rfl rfl rfl (hc) rfl | exact bl (hc))) | refine X.loc ?_ | refine nx ?_ | refine X.cdT ?_ | refine X.cdF ?_ | refine cb ?_ ?_ | (refine cc ?_ ?_ <;> intro hcond) | (apply X.gsE; (· exact aR); (· exact aV); (· exact aW); (· intro hc; first | exact .callG rfl rfl rfl (hc) rfl | exact bg (hc)); (· exact aR)) | refine rb ?_ | refine nd ?_ | refine dk ?_ | fail)
      refine ⟨k + 1, ⟨by omega, ?_⟩, by omega, ?_⟩
      · rw [take_succ hx]
        intro y hy
        rcases List.mem_append.1 hy with hy | hy
        · exact hd y hy
        · obtain rfl := List.mem_singleton.1 hy
          exact hpx
      · exact lq
theorem contDe_T {F : Nat} {c : AV} (l : List De) (p : De → Bool) (hp : ∀ x ∈ l, Fun Tryz.prog F [.agg ((encDe x).map .fv), c] (.fv (.bool (p x)))) (hl : l.length < 9223372036854775807) : Fun Tryz.prog 37 [.fv (slOf encDe l), .fn F [c]] (.fv (.bool (l.any p))) := by
  have h1 := idxDe_T l p hp hl
  have h2 := idxB_any p l
  have h3 := idxB_ge p l
  generalize idxB p l = i at *
  refine Fun.body tbl_ok Tryz.func37 rfl (by kernel_rfl) rfl rfl rfl ?_
  repeat' (first | (apply X.loE; (· exact aR); (· first | exact .callL rfl rfl rfl (h1) rfl | exact bl (h1))) | refine X.loc ?_ | refine nx ?_ | refine cb ?_ ?_ | (refine cc ?_ ?_ <;> intro hcond) | (apply X.gsE; (· exact aR); (· exact aV); (· exact aW); (· intro hc; first | exact .callG rfl rfl rfl (h1) rfl | exact bg (h1)); (· exact aR)) | refine rb ?_ | refine nd ?_ | refine dk ?_ | fail)
  refine .f1 (.inl rfl) rfl ?_
  congr 1
  rw [Bool.eq_iff_iff, decide_eq_true_eq]
  cases h : l.any p <;> simp [h] at h2 ⊢ <;> omega
theorem stale1_T (a : De) (x : Ar) : Fun Tryz.prog 38 [.agg ((encDe a).map .fv), .fptr (encAr x)] (.fv (.bool (a.kind == 2 && a.po.id == x.port))) := by
  refine Fun.body tbl_ok Tryz.func38 rfl (by kernel_rfl) rfl rfl rfl ?_
  repeat' (first | refine X.loc ?_ | refine nx ?_ | refine X.cdT ?_ | refine X.cdF ?_ | refine cb ?_ ?_ | (refine cc ?_ ?_ <;> intro hcond) | refine rb ?_ | refine nd ?_ | refine dk ?_ | fail)
  exact .f1 (.inl rfl) rfl rfl
theorem added_T (l : List De) (x : Ar) (hl : l.length < 9223372036854775807) : Fun Tryz.prog 37 [.fv (slOf encDe l), .fn 38 [.fptr (encAr x)]] (.fv (.bool (addedB l x.port))) :=
  contDe_T (F := 38) (c := .fptr (encAr x)) l (fun a => a.kind == 2 && a.po.id == x.port) (fun a _ => stale1_T a x) hl
end Go.Proofs.YtmidechdlbcepaaGreat
namespace Go.Proofs.YtmidechdlbcepaaGreat
open Go.ChangeShapes Go.WideShapes Go.ChangeAt Go.RowKit
set_option maxRecDepth 100000
set_option maxHeartbeats 8000000 in
theorem topStale_T (l : List Rq) (hl : ∀ x ∈ l, x.Ok) : Fun Tryz.prog 11 [.fv (slOf encRq l)] (.fv (.bool true)) := by
  have c1 := actsF_T l 60 hl (by omega)
  have hAl := actsOf_len l 60
  generalize actsOf l 60 = A at *
  have u1 := topRun_T A (by omega)
  obtain ⟨a1, a2, a3⟩ := scr_short (l := A) (by omega)
  rw [a1, a2, a3] at u1
  have hok := runS_ok fb0_ok A
  have c2 := confCheck_T (runS fb0 A).c hok.c.small
  rw [if_pos (cfMay_iff.2 hok.c)] at c2
  have hR1 := runR_len A fb0
  have hat1 := fun (k : Nat) (a : De) (h : A[k]? = some a) => runR_at fb0 h
  have hst := fun (k : Nat) (a : De) (x : Ar) (h : x ∈ (actR (runS fb0 (A.take k)) a).come) => stale h
  have hcm := fun (k : Nat) (a : De) => act_come (runS_ok fb0_ok (A.take k)) a
  generalize runR fb0 A = R1 at *
  generalize (runS fb0 A).c = c at *
  have hb0 : ((((0 : Int) != 0) || ((0 : Int) != 0)) || ((R1.length : Int) != (A.length : Int))) = false := by rw [hR1]; simp
  refine Fun.body tbl_ok Tryz.func11 rfl (by kernel_rfl) rfl rfl rfl ?_
  repeat' (first | (apply X.loE; (· exact aR); (· first | exact .callL rfl rfl rfl (by first | exact c1 | exact u1 | exact c2) rfl | exact bl (c1) | exact bl (u1) | exact bl (c2))) | refine X.loc ?_ | (refine X.cdF ?_ rfl hb0) | refine nx ?_ | refine X.cdT ?_ | refine X.cdF ?_ | refine cb ?_ ?_ | (refine cc ?_ ?_ <;> intro hcond) | (apply X.gsE; (· exact aR); (· exact aV); (· exact aW); (· intro hc; first | exact .callG rfl rfl rfl (by first | exact c1 | exact u1 | exact c2) rfl | exact bg (c1) | exact bg (u1) | exact bg (c2)); (· exact aR)) | refine rb ?_ | refine nd ?_ | refine dk ?_ | fail)
  refine WP.loop (ι := Nat) (fun k => ⟨[(3, .fv (slOf encDe A)), (4, .fv (slOf encRep R1)), (34, .fv (slOf encDe A)), (35, .fv (.int .i64 A.length)), (36, .fv (.int .i64 k))], []⟩) (fun k => k ≤ A.length) (fun k => A.length - k) 0 (by omega) ?_ ?_
  · exact tq [] []
  rintro k hk
  try dsimp only
  by_cases hlt : k < A.length
  case neg =>
    repeat' (first | refine X.loc ?_ | refine nx ?_ | refine X.cdT ?_ | refine X.cdF ?_ | refine cb ?_ ?_ | (refine cc ?_ ?_ <;> intro hcond) | refine rb ?_ | refine nd ?_ | refine dk ?_ | fail)
    exact .f1 (.inl rfl) rfl rfl
  case pos =>
    obtain ⟨a, ha⟩ : ∃ a, A[k]? = some a := ⟨_, List.getElem?_eq_getElem hlt⟩
    have g1 := hat1 k a ha
    have g2 := hst k a
    have hcl := hcm k a
    generalize actR (runS fb0 (A.take k)) a = r at *
    repeat' (first | (apply X.loE; (· exact aR); (· first | (exact .eff (.idxS rfl rfl rfl encDe_len ha)) | (exact .eff (.idxS rfl rfl rfl encRep_len g1)))) | refine X.loc ?_ | refine nx ?_ | refine X.cdT ?_ | refine X.cdF ?_ | refine cb ?_ ?_ | (refine cc ?_ ?_ <;> intro hcond) | (apply X.gsE; (· exact aR); (· exact aV); (· exact aW); (· intro hc; first | (exact .eff (.idxS rfl rfl rfl encDe_len ha)) | (exact .eff (.idxS rfl rfl rfl encRep_len g1))); (· exact aR)) | refine rb ?_ | refine nd ?_ | refine dk ?_ | fail)
    refine WP.loop (ι := Nat) (fun j => ⟨[(3, .fv (slOf encDe A)), (4, .fv (slOf encRep R1)), (7, .fv (.int .i64 k)), (8, .optr 900 0), (34, .fv (slOf encDe A)), (35, .fv (.int .i64 A.length)), (36, .fv (.int .i64 k)), (45, .fv (slOf encAr r.come)), (46, .fv (.int .i64 r.come.length)), (47, .fv (.int .i64 j))], [(900, .box 74 ((encDe a).map .fv))]⟩) (fun j => j ≤ r.come.length) (fun j => r.come.length - j) 0 (by omega) ?_ ?_
    · exact tq [(900, .id 8)] []
    rintro j hj
    try dsimp only
    by_cases hlt2 : j < r.come.length
    case neg =>
      repeat' (first | refine X.loc ?_ | refine nx ?_ | refine X.cdT ?_ | refine X.cdF ?_ | refine cb ?_ ?_ | (refine cc ?_ ?_ <;> intro hcond) | refine rb ?_ | refine nd ?_ | refine dk ?_ | fail)
      refine ⟨k + 1, by omega, by omega, ?_⟩
      try dsimp only
      exact tq [] []
    case pos =>
      obtain ⟨x, hx⟩ : ∃ x, r.come[j]? = some x := ⟨_, List.getElem?_eq_getElem hlt2⟩
      obtain ⟨k8, hadd, hk1⟩ := g2 x (List.mem_of_getElem? hx)
      have c3 := added_T (A.take k) x (by rw [List.length_take]; omega)
      rw [hadd] at c3
      have hb : (((a.kind != 8) || !true) || (x.is.kind == 1)) = false := by
        rw [k8, beq_eq_false_iff_ne.2 hk1]
        rfl
      repeat' (first | (apply X.loE; (· exact aR); (· first | (exact .eff (.idxS rfl rfl rfl encAr_len hx)) | (exact .eff (.sliHS rfl rfl rfl encDe_len (by omega))) | exact .callL rfl rfl rfl (c3) rfl | exact bl (c3))) | refine X.loc ?_ | (refine X.cdF ?_ rfl hb) | refine nx ?_ | refine X.cdT ?_ | refine X.cdF ?_ | refine cb ?_ ?_ | (refine cc ?_ ?_ <;> intro hcond) | (apply X.gsE; (· exact aR); (· exact aV); (· exact aW); (· intro hc; first | (exact .eff (.idxS rfl rfl rfl encAr_len hx)) | (exact .eff (.sliHS rfl rfl rfl encDe_len (by omega))) | exact .callG rfl rfl rfl (c3) rfl | exact bg (c3)); (· exact aR)) | refine rb ?_ | refine nd ?_ | refine dk ?_ | fail)
      refine ⟨j + 1, by omega, by omega, ?_⟩
      try dsimp only
      exact tq [] []
theorem topStale_open {H : Type} {enc : TypeId × Value → H} (W : World) (base : Nat) {v0 : Value} {d0 : DataW H} {p0 : List MemPlace} (hv0 : Value.okWide Tryz.prog W .any base 57 v0)
    (h0 : DataW.Trod enc Tryz.prog W 0 (fun _ => true) true 57 v0 d0 p0) (hs0 : SizedCl Tryz.prog 57 d0) : Calls Tryz.prog 11 #[v0] W fun e W' => e = .returned (.bool true) ∧ Below W.heap.size W W' := by
  obtain ⟨l, hl, _, hr⟩ := open_raws hv0 h0 hs0
  exact (topStale_T l hl).yes ⟨hr, trivial⟩
end Go.Proofs.YtmidechdlbcepaaGreat