import Derived.Test.YtmidechdlbcepaaGreatPack52
set_option linter.unusedSimpArgs false
set_option linter.unusedVariables false
namespace Go.Proofs.YtmidechdlbcepaaGreat
open Go.RowKit
set_option maxRecDepth 100000
theorem prioA_getD {l : List Ac} {i : Int} (h : 0 ≤ i ∧ i < l.length) : prioA l i = (l.getD i.toNat ac0).prio := by
  obtain ⟨n, rfl⟩ := Int.eq_ofNat_of_zero_le h.1
  have hlt : n < l.length := by omega
  unfold prioA
  simp [List.getElem?_eq_getElem hlt]
theorem bstA_bd {l : List Ac} {q : Ac → Bool} {k : Nat} (hk : k ≤ l.length) : -1 ≤ bstA l q k ∧ (0 ≤ bstA l q k → 0 ≤ bstA l q k ∧ bstA l q k < l.length) := by
  rcases bstA_is l q k hk with ⟨h1, _⟩ | ⟨n, g, h1, _, h2, _⟩
  · omega
  · omega
def asksB (net : Int) (inn : Bool) (src dst port : Int) (a : Ac) : Bool := (a.inn == inn) && ruleFit net src dst port a
theorem allow_best (c : Cf) (net : Int) (inn : Bool) (src dst port : Int) : allowB c net inn src dst port = (decide (bstA c.acs (asksB net inn src dst port) c.acs.length < 0) || !(c.acs.getD (bstA c.acs (asksB net inn src dst port) c.acs.length).toNat ac0).deny) := by
  have h := bstA_is c.acs (asksB net inn src dst port) c.acs.length (Nat.le_refl _)
  have hb := (bstA_bd (q := asksB net inn src dst port) (Nat.le_refl c.acs.length)).2
  have hf := best_find (l := c.acs) (q1 := fun a => a.inn == inn) (q2 := ruleFit net src dst port) h
  have e : c.acs.filter (fun a => a.inn == inn) = ofKind c inn := rfl
  rw [e] at hf
  unfold allowB
  rw [hf]
  generalize bstA c.acs (asksB net inn src dst port) c.acs.length = i at *
  by_cases hi : i < 0
  · rw [if_pos hi, decide_eq_true hi]
    rfl
  · rw [if_neg hi, decide_eq_false hi, Bool.false_or]
    have := hb (by omega)
    obtain ⟨n, rfl⟩ := Int.eq_ofNat_of_zero_le this.1
    have hlt : n < c.acs.length := by omega
    simp [List.getElem?_eq_getElem hlt]
theorem asks_not {net : Int} {inn : Bool} {src dst port : Int} {a : Ac} : (!asksB net inn src dst port a) = ((((a.sw != net || !(a.inn == inn)) || src / unitOf a.srcBits != a.src / unitOf a.srcBits) || dst / unitOf a.dstBits != a.dst / unitOf a.dstBits) || (decide (a.port ≥ 0) && (a.port != port))) := by
  unfold asksB ruleFit
  have hp : (!decide (a.port < 0)) = decide (a.port ≥ 0) := by
    by_cases h : a.port < 0
    · rw [decide_eq_true h, decide_eq_false (by omega)]; rfl
    · rw [decide_eq_false h, decide_eq_true (by omega)]; rfl
  simp only [Bool.not_and, Bool.not_or, hp, bne]
  cases (a.inn == inn) <;> cases (a.sw == net) <;> simp [Bool.or_assoc]
set_option maxHeartbeats 8000000 in
theorem allows_T (c : Cf) (hc : CfOk c) (net : Int) (inn : Bool) (f : Fr) (hf : FrMay f) : Fun Tryz.prog 111 [.agg ((encCf c).map .fv), .fv (.int .i64 net), .fv (.bool inn), .agg ((encFr f).map .fv)] (.fv (.bool (allowB c net inn f.ipSrc f.ipDst f.port))) := by
  have hal := hc.al
  have hs := hf.ipSrc
  have hd := hf.ipDst
  refine Fun.body tbl_ok Tryz.func111 rfl (by kernel_rfl) rfl rfl rfl ?_
  repeat' (first | refine X.loc ?_ | refine nx ?_ | refine X.cdT ?_ | refine X.cdF ?_ | refine cb ?_ ?_ | (refine cc ?_ ?_ <;> intro hcond) | refine rb ?_ | refine nd ?_ | refine dk ?_ | fail)
  refine WP.loop (ι := Nat) (fun k => ⟨[(1, .fv (.int .i64 net)), (2, .fv (.bool inn)), (4, .optr 4 0), (7, .optr 7 0), (9, .fv (.int .i64 (bstA c.acs (asksB net inn f.ipSrc f.ipDst f.port) k))), (10, .fv (.int .i64 k))], [(4, .box 26 ((encCf c).map .fv)), (7, .box 28 ((encFr f).map .fv))]⟩) (fun k => k ≤ c.acs.length) (fun k => c.acs.length - k) 0 (by omega) ?_ ?_
  · exact tq [] []
  rintro k hk
  try dsimp only
  obtain ⟨hb1, hb2⟩ := bstA_bd (q := asksB net inn f.ipSrc f.ipDst f.port) hk
  by_cases hlt : k < c.acs.length
  case neg =>
    have hkl : k = c.acs.length := by omega
    rw [hkl] at hb1 hb2 ⊢
    rw [allow_best]
    generalize bstA c.acs (asksB net inn f.ipSrc f.ipDst f.port) c.acs.length = i at *
    repeat' (first | (apply X.loE; (· exact aR); (· first | (exact .eff (.idxD ac0 rfl rfl rfl encAc_len (hb2 (by have := hc; simp at this; omega)))))) | refine X.loc ?_ | refine nx ?_ | refine X.cdT ?_ | refine X.cdF ?_ | refine cb ?_ ?_ | (refine cc ?_ ?_ <;> intro hcond) | (apply X.gsE; (· exact aR); (· exact aV); (· exact aW); (· intro hc; first | (exact .eff (.idxD ac0 rfl rfl rfl encAc_len (hb2 (by have := hc; simp at this; omega))))); (· exact aR)) | refine rb ?_ | refine nd ?_ | refine dk ?_ | fail)
    exact .f1 (.inl rfl) rfl rfl
  case pos =>
    obtain ⟨x, hx⟩ : ∃ x, c.acs[k]? = some x := ⟨_, List.getElem?_eq_getElem hlt⟩
    obtain ⟨⟨⟨_, g1, g2, g3, g4, _⟩, _⟩, _⟩ := hc.ar x (List.mem_of_getElem? hx)
    obtain ⟨sb, hsb⟩ := Int.eq_ofNat_of_zero_le g3.1
    obtain ⟨db, hdb⟩ := Int.eq_ofNat_of_zero_le g4.1
    have m1 := unit_T sb (by omega)
    have m2 := unit_T db (by omega)
    rw [← hsb] at m1
    rw [← hdb] at m2
    have p1 : 0 < unitOf x.srcBits := by unfold unitOf; exact Int.pow_pos (by omega)
    have p2 : 0 < unitOf x.dstBits := by unfold unitOf; exact Int.pow_pos (by omega)
    have hst : bstA c.acs (asksB net inn f.ipSrc f.ipDst f.port) (k + 1) = if (asksB net inn f.ipSrc f.ipDst f.port x && (decide (bstA c.acs (asksB net inn f.ipSrc f.ipDst f.port) k < 0) || decide (x.prio > (c.acs.getD (bstA c.acs (asksB net inn f.ipSrc f.ipDst f.port) k).toNat ac0).prio))) = true then (k : Int) else bstA c.acs (asksB net inn f.ipSrc f.ipDst f.port) k := by
      simp only [bstA, hx]
      generalize bstA c.acs (asksB net inn f.ipSrc f.ipDst f.port) k = i at hb1 hb2 ⊢
      rcases Int.lt_or_le i 0 with h | h
      · simp [h]
      · rw [prioA_getD (hb2 h)]
    generalize bstA c.acs (asksB net inn f.ipSrc f.ipDst f.port) k = i at *
    repeat' (first | (apply X.loE; (· exact aR); (· first | (exact .eff (.idxS rfl rfl rfl encAc_len hx)) | (exact .eff (.idxD ac0 rfl rfl rfl encAc_len (hb2 (by have := hc; simp at this; omega)))) | exact .callL rfl rfl rfl (by first | exact m1 | exact m2) rfl | exact bl (m1) | exact bl (m2))) | refine X.loc ?_ | refine nx ?_ | refine cb ?_ ?_ | (refine cc ?_ ?_ <;> intro hcond) | (apply X.gsE; (· exact aR); (· exact aV); (· exact aW); (· intro hc; first | (exact .eff (.idxS rfl rfl rfl encAc_len hx)) | (exact .eff (.idxD ac0 rfl rfl rfl encAc_len (hb2 (by have := hc; simp at this; omega)))) | exact .callG rfl rfl rfl (by first | exact m1 | exact m2) rfl | exact bg (m1) | exact bg (m2)); (· exact aR)) | refine rb ?_ | refine nd ?_ | refine dk ?_ | fail)
    · have e : (!asksB net inn f.ipSrc f.ipDst f.port x) = true := asks_not.trans hcond
      refine ⟨k + 1, by omega, by omega, ?_⟩
      try dsimp only
      rw [hst, if_neg (fun h => by rw [Bool.and_eq_true] at h; rw [h.1] at e; cases e)]
      exact tq [] []
    · rename_i h1
      have e : (!asksB net inn f.ipSrc f.ipDst f.port x) = false := asks_not.trans h1
      refine ⟨k + 1, by omega, by omega, ?_⟩
      try dsimp only
      rw [hst, if_pos (by rw [Bool.and_eq_true]; exact ⟨by simpa using e, hcond⟩)]
      exact tq [] []
    · rename_i h1
      refine ⟨k + 1, by omega, by omega, ?_⟩
      try dsimp only
      rw [hst, if_neg (fun h => by rw [Bool.and_eq_true] at h; rw [hcond] at h; cases h.2)]
      exact tq [] []
    · exfalso
      simp at hcond
      omega
end Go.Proofs.YtmidechdlbcepaaGreat
namespace Go.Proofs.YtmidechdlbcepaaGreat
open Go.ChangeShapes Go.WideShapes Go.ChangeAt Go.RowKit Go.Deep
section
variable {H : Type} {enc : TypeId × Value → H} {w : World} {base : Nat} {spare : Nat → Bool} {held : Bool}
theorem repF_int {k : IntKind} {n : Int} : RepF w [.int k n] [.int k n] := fun _ => ⟨rfl, trivial⟩
theorem repF_cons {f : FV} {v : Value} {fs : List FV} {us : List Value} (h : f.Rep (fun b => b < w.heap.size) w v) (h' : RepF w fs us) : RepF w (f :: fs) (v :: us) := fun σ => ⟨h, h' σ⟩
theorem repF_nil : RepF w [] [] := fun _ => trivial
end

end Go.Proofs.YtmidechdlbcepaaGreat
namespace Go.Proofs.YtmidechdlbcepaaGreat
open Go.ChangeShapes Go.WideShapes Go.ChangeAt Go.RowKit Go.Deep
set_option maxRecDepth 100000
section
variable {H : Type} {enc : TypeId × Value → H} {P : Program} {w : World} {base : Nat} {spare : Nat → Bool} {held : Bool} {Cl : TypeId → DataW H → Prop}
theorem fr_repF {f : Fr} (h : f.Ok) : RepF w (encFr f) f.cells := fun _ => ⟨rfl, rfl, rfl, rfl, rfl, rfl, rfl, ⟨rfl, h.2.2.2.2.2.2.2⟩, trivial⟩
end
end Go.Proofs.YtmidechdlbcepaaGreat
namespace Go.Proofs.YtmidechdlbcepaaGreat
open Go.RowKit
set_option maxRecDepth 100000
theorem appliedB_T (c : Cf) (a : De) (hl : c.Fit) (hm : cfMay c = false) : Fun Tryz.prog 54 [.agg ((encCf c).map .fv), .agg ((encDe a).map .fv)] (.tup [.agg ((encCf (applyR c a)).map .fv), .fv (.int .i64 (applyE c a))]) := by
  have hck := confMay_T c hl.small
  refine Fun.body tbl_ok Tryz.func54 rfl (by kernel_rfl) rfl rfl rfl ?_
  rw [hm] at hck
  repeat' (first | (apply X.loE; (· exact aR); (· first | exact .callL rfl rfl rfl (hck) rfl | exact bl (hck))) | refine X.loc ?_ | refine nx ?_ | refine X.cdT ?_ | refine X.cdF ?_ | refine cb ?_ ?_ | (refine cc ?_ ?_ <;> intro hcond) | (apply X.gsE; (· exact aR); (· exact aV); (· exact aW); (· intro hc; first | exact .callG rfl rfl rfl (hck) rfl | exact bg (hck)); (· exact aR)) | refine rb ?_ | refine nd ?_ | refine dk ?_ | fail)
  refine .le (s' := ⟨[(4, .optr 4 0), (5, .fv (.int .i64 8))], [(4, .box 26 ((encCf cf0).map .fv))]⟩) ?_ (.fun (.inl rfl) rfl ?_)
  · exact tq [] []
  · rw [applyE_bad hm, applyR_bad (by rw [applyE_bad hm]; decide)]
    rfl

set_option maxHeartbeats 4000000 in
theorem applied1_T (c : Cf) (a : De) (hl : c.Fit) (hm : cfMay c = true) (k : a.kind = 1) : Fun Tryz.prog 54 [.agg ((encCf c).map .fv), .agg ((encDe a).map .fv)] (.tup [.agg ((encCf (applyR c a)).map .fv), .fv (.int .i64 (applyE c a))]) := by
  have hck := confMay_T c hl.small
  refine Fun.body tbl_ok Tryz.func54 rfl (by kernel_rfl) rfl rfl rfl ?_
  rw [hm] at hck
  have hlen := cfMay_len hm
  have hcp := copyR_T c hl
  have b1 := hlen.ss
  have b2 := hlen.ps
  have b3 := hlen.acs
  have e0 : applyE c a = swFault c a.sw := by rw [applyE, if_neg (by rw [hm]; decide), if_pos k]
  have c1 := switchFault_T c a.sw hl.small
  generalize swFault c a.sw = e at *
  by_cases he : e = 0
  · subst he
    repeat' (first | (apply X.loE; (· exact aR); (· first | exact .callL rfl rfl rfl (by first | exact hck | exact c1) rfl | exact bl (hck) | exact bl (c1))) | refine X.loc ?_ | refine nx ?_ | refine X.cdT ?_ | refine X.cdF ?_ | refine cb ?_ ?_ | (refine cc ?_ ?_ <;> intro hcond) | (apply X.gsE; (· exact aR); (· exact aV); (· exact aW); (· intro hc; first | exact .callG rfl rfl rfl (by first | exact hck | exact c1) rfl | exact bg (hck) | exact bg (c1)); (· exact aR)) | refine rb ?_ | refine X.c0 (hcp) ?_ | refine nd ?_ | refine dk ?_ | fail)
    refine .le (s' := ⟨[(4, .optr 4 0), (5, .fv (.int .i64 0))], [(4, .box 26 ((encCf (applyD c a)).map .fv))]⟩) ?_ (.fun (.inl rfl) rfl ?_)
    · have e5 : applyD c a = { c with ss := c.ss ++ [a.sw] } := by rw [applyD, if_pos k]
      rw [e5]
      refine St.to [] [32, 318, 618] rfl rfl ?_ ?_ <;> (repeat' (first | exact tA | refine t1 ?_ | exact tB | refine t2 ?_ ?_ | refine t3 ?_ | refine t4 ?_ ?_ | refine .ofEq ?_ | refine OB.To.cut rfl rfl ?_ ?_ ?_ ?_ | refine OB.To.box rfl rfl ?_ | refine ⟨⟨_, rfl, ?_⟩, ?_⟩ | refine ⟨?_, ?_⟩ | fail))
      all_goals first | (simp; done) | (rw [List.length_eraseIdx, if_pos (by omega)]; done) | (simp only [List.flatMap_append, List.map_append]; rfl)
    · rw [e0, applyR_ok e0, ← applyD_eq hm e0]
      rfl
  · skip
    repeat' (first | (apply X.loE; (· exact aR); (· first | exact .callL rfl rfl rfl (by first | exact hck | exact c1) rfl | exact bl (hck) | exact bl (c1))) | refine X.loc ?_ | refine nx ?_ | refine X.cdT ?_ | refine X.cdF ?_ | refine cb ?_ ?_ | (refine cc ?_ ?_ <;> intro hcond) | (apply X.gsE; (· exact aR); (· exact aV); (· exact aW); (· intro hc; first | exact .callG rfl rfl rfl (by first | exact hck | exact c1) rfl | exact bg (hck) | exact bg (c1)); (· exact aR)) | refine rb ?_ | refine X.c0 (hcp) ?_ | refine nd ?_ | refine dk ?_ | fail)
    refine .le (s' := ⟨[(4, .optr 4 0), (5, .fv (.int .i64 e))], [(4, .box 26 ((encCf cf0).map .fv))]⟩) ?_ (.fun (.inl rfl) rfl ?_)
    · exact tq [] []
    · rw [applyR_bad (by rw [e0]; first | exact he | decide), e0]
      rfl

set_option maxHeartbeats 4000000 in
theorem applied2_T (c : Cf) (a : De) (hl : c.Fit) (hm : cfMay c = true) (k : a.kind = 2) : Fun Tryz.prog 54 [.agg ((encCf c).map .fv), .agg ((encDe a).map .fv)] (.tup [.agg ((encCf (applyR c a)).map .fv), .fv (.int .i64 (applyE c a))]) := by
  have hck := confMay_T c hl.small
  refine Fun.body tbl_ok Tryz.func54 rfl (by kernel_rfl) rfl rfl rfl ?_
  rw [hm] at hck
  have hlen := cfMay_len hm
  have hcp := copyR_T c hl
  have b1 := hlen.ss
  have b2 := hlen.ps
  have b3 := hlen.acs
  have e0 : applyE c a = poFault c a.po := by rw [applyE, if_neg (by rw [hm]; decide), if_neg (by rw [k]; decide), if_pos k]
  have c1 := portFault_T c a.po hl.small
  generalize poFault c a.po = e at *
  by_cases he : e = 0
  · subst he
    repeat' (first | (apply X.loE; (· exact aR); (· first | exact .callL rfl rfl rfl (by first | exact hck | exact c1) rfl | exact bl (hck) | exact bl (c1))) | refine X.loc ?_ | refine nx ?_ | refine X.cdT ?_ | refine X.cdF ?_ | refine cb ?_ ?_ | (refine cc ?_ ?_ <;> intro hcond) | (apply X.gsE; (· exact aR); (· exact aV); (· exact aW); (· intro hc; first | exact .callG rfl rfl rfl (by first | exact hck | exact c1) rfl | exact bg (hck) | exact bg (c1)); (· exact aR)) | refine rb ?_ | refine X.c0 (hcp) ?_ | refine nd ?_ | refine dk ?_ | fail)
    refine .le (s' := ⟨[(4, .optr 4 0), (5, .fv (.int .i64 0))], [(4, .box 26 ((encCf (applyD c a)).map .fv))]⟩) ?_ (.fun (.inl rfl) rfl ?_)
    · have e5 : applyD c a = { c with ps := c.ps ++ [a.po] } := by rw [applyD, if_neg (by rw [k]; decide), if_pos k]
      rw [e5]
      refine St.to [] [18, 45, 618] rfl rfl ?_ ?_ <;> (repeat' (first | exact tA | refine t1 ?_ | exact tB | refine t2 ?_ ?_ | refine t3 ?_ | refine t4 ?_ ?_ | refine .ofEq ?_ | refine OB.To.cut rfl rfl ?_ ?_ ?_ ?_ | refine OB.To.box rfl rfl ?_ | refine ⟨⟨_, rfl, ?_⟩, ?_⟩ | refine ⟨?_, ?_⟩ | fail))
      all_goals first | (simp; done) | (rw [List.length_eraseIdx, if_pos (by omega)]; done) | (simp only [List.flatMap_append, List.map_append]; rfl)
    · rw [e0, applyR_ok e0, ← applyD_eq hm e0]
      rfl
  · skip
    repeat' (first | (apply X.loE; (· exact aR); (· first | exact .callL rfl rfl rfl (by first | exact hck | exact c1) rfl | exact bl (hck) | exact bl (c1))) | refine X.loc ?_ | refine nx ?_ | refine X.cdT ?_ | refine X.cdF ?_ | refine cb ?_ ?_ | (refine cc ?_ ?_ <;> intro hcond) | (apply X.gsE; (· exact aR); (· exact aV); (· exact aW); (· intro hc; first | exact .callG rfl rfl rfl (by first | exact hck | exact c1) rfl | exact bg (hck) | exact bg (c1)); (· exact aR)) | refine rb ?_ | refine X.c0 (hcp) ?_ | refine nd ?_ | refine dk ?_ | fail)
    refine .le (s' := ⟨[(4, .optr 4 0), (5, .fv (.int .i64 e))], [(4, .box 26 ((encCf cf0).map .fv))]⟩) ?_ (.fun (.inl rfl) rfl ?_)
    · exact tq [] []
    · rw [applyR_bad (by rw [e0]; first | exact he | decide), e0]
      rfl

set_option maxHeartbeats 4000000 in
theorem applied3_T (c : Cf) (a : De) (hl : c.Fit) (hm : cfMay c = true) (k : a.kind = 3) : Fun Tryz.prog 54 [.agg ((encCf c).map .fv), .agg ((encDe a).map .fv)] (.tup [.agg ((encCf (applyR c a)).map .fv), .fv (.int .i64 (applyE c a))]) := by
  have hck := confMay_T c hl.small
  refine Fun.body tbl_ok Tryz.func54 rfl (by kernel_rfl) rfl rfl rfl ?_
  rw [hm] at hck
  have hlen := cfMay_len hm
  have hcp := copyR_T c hl
  have b1 := hlen.ss
  have b2 := hlen.ps
  have b3 := hlen.acs
  have e0 : applyE c a = acFault c a.ac := by rw [applyE, if_neg (by rw [hm]; decide), if_neg (by rw [k]; decide), if_neg (by rw [k]; decide), if_pos k]
  have c1 := aclFault_T c a.ac hl.small
  generalize acFault c a.ac = e at *
  by_cases he : e = 0
  · subst he
    repeat' (first | (apply X.loE; (· exact aR); (· first | exact .callL rfl rfl rfl (by first | exact hck | exact c1) rfl | exact bl (hck) | exact bl (c1))) | refine X.loc ?_ | refine nx ?_ | refine X.cdT ?_ | refine X.cdF ?_ | refine cb ?_ ?_ | (refine cc ?_ ?_ <;> intro hcond) | (apply X.gsE; (· exact aR); (· exact aV); (· exact aW); (· intro hc; first | exact .callG rfl rfl rfl (by first | exact hck | exact c1) rfl | exact bg (hck) | exact bg (c1)); (· exact aR)) | refine rb ?_ | refine X.c0 (hcp) ?_ | refine nd ?_ | refine dk ?_ | fail)
    refine .le (s' := ⟨[(4, .optr 4 0), (5, .fv (.int .i64 0))], [(4, .box 26 ((encCf (applyD c a)).map .fv))]⟩) ?_ (.fun (.inl rfl) rfl ?_)
    · have e5 : applyD c a = { c with acs := c.acs ++ [a.ac] } := by rw [applyD, if_neg (by rw [k]; decide), if_neg (by rw [k]; decide), if_pos k]
      rw [e5]
      refine St.to [] [18, 318, 58] rfl rfl ?_ ?_ <;> (repeat' (first | exact tA | refine t1 ?_ | exact tB | refine t2 ?_ ?_ | refine t3 ?_ | refine t4 ?_ ?_ | refine .ofEq ?_ | refine OB.To.cut rfl rfl ?_ ?_ ?_ ?_ | refine OB.To.box rfl rfl ?_ | refine ⟨⟨_, rfl, ?_⟩, ?_⟩ | refine ⟨?_, ?_⟩ | fail))
      all_goals first | (simp; done) | (rw [List.length_eraseIdx, if_pos (by omega)]; done) | (simp only [List.flatMap_append, List.map_append]; rfl)
    · rw [e0, applyR_ok e0, ← applyD_eq hm e0]
      rfl
  · skip
    repeat' (first | (apply X.loE; (· exact aR); (· first | exact .callL rfl rfl rfl (by first | exact hck | exact c1) rfl | exact bl (hck) | exact bl (c1))) | refine X.loc ?_ | refine nx ?_ | refine X.cdT ?_ | refine X.cdF ?_ | refine cb ?_ ?_ | (refine cc ?_ ?_ <;> intro hcond) | (apply X.gsE; (· exact aR); (· exact aV); (· exact aW); (· intro hc; first | exact .callG rfl rfl rfl (by first | exact hck | exact c1) rfl | exact bg (hck) | exact bg (c1)); (· exact aR)) | refine rb ?_ | refine X.c0 (hcp) ?_ | refine nd ?_ | refine dk ?_ | fail)
    refine .le (s' := ⟨[(4, .optr 4 0), (5, .fv (.int .i64 e))], [(4, .box 26 ((encCf cf0).map .fv))]⟩) ?_ (.fun (.inl rfl) rfl ?_)
    · exact tq [] []
    · rw [applyR_bad (by rw [e0]; first | exact he | decide), e0]
      rfl

set_option maxHeartbeats 4000000 in
theorem applied46_T (c : Cf) (a : De) (hl : c.Fit) (hm : cfMay c = true) (k46 : a.kind = 4 ∨ a.kind = 6) : Fun Tryz.prog 54 [.agg ((encCf c).map .fv), .agg ((encDe a).map .fv)] (.tup [.agg ((encCf (applyR c a)).map .fv), .fv (.int .i64 (applyE c a))]) := by
  have hck := confMay_T c hl.small
  refine Fun.body tbl_ok Tryz.func54 rfl (by kernel_rfl) rfl rfl rfl ?_
  rw [hm] at hck
  have hlen := cfMay_len hm
  have hcp := copyR_T c hl
  have b1 := hlen.ss
  have b2 := hlen.ps
  have b3 := hlen.acs
  have hids : ∀ k, ((c.ps.take k).filterMap (keepP a)).length ≤ k := fun k => Nat.le_trans (List.length_filterMap_le _ _) (by rw [List.length_take]; omega)
  have c1 := portOf_T c a.n hl.small
  have c2 := in_T a.m (-1) 5
  have hany := idxB_any (fun p : Po => p.id == a.n) c.ps
  have hfin : applyE c a = 0 → c.ps.filterMap (keepP a) = (applyR c a).ps ∧ (applyR c a).ss = c.ss ∧ (applyR c a).acs = c.acs := fun h0 => by
    rw [applyR_ok h0, ← applyD_eq hm h0, applyD, if_neg (by omega), if_neg (by omega), if_neg (by omega), if_pos k46]
    exact ⟨rfl, rfl, rfl⟩
  have e0 : applyE c a = (if (c.ps.any fun p => p.id == a.n) = false then 6 else if a.kind = 6 ∧ inR a.m (-1) 5 = false then 2 else 0) := by
    rw [applyE, if_neg (by rw [hm]; decide), if_neg (by omega), if_neg (by omega), if_neg (by omega), if_pos k46]
    by_cases ha : (c.ps.any fun p => p.id == a.n) = false
    · rw [if_pos (hany.2 ha), if_pos ha]
    · rw [if_neg fun h => ha (hany.1 h), if_neg ha]
  have hbad : applyE c a ≠ 0 → applyR c a = cf0 := applyR_bad
  generalize hF : (c.ps.find? fun p => p.id == a.n).getD po0 = pf at c1
  clear hF
  generalize (c.ps.any fun p => p.id == a.n) = an at c1 e0
  generalize inR a.m (-1) 5 = ir at c2 e0
  generalize applyE c a = e at *
  generalize hR : applyR c a = R at *
  clear hR
  rcases k46 with hk | hk
  · skip
    repeat' (first | with_reducible refine WP.hold 71 ?_ | (apply X.loE; (· exact aR); (· first | exact .callL rfl rfl rfl (by first | exact hck | exact c1) rfl | exact bl (hck) | exact bl (c1))) | refine X.loc ?_ | refine nx ?_ | refine X.cdT ?_ | refine X.cdF ?_ | refine cb ?_ ?_ | (refine cc ?_ ?_ <;> intro hcond) | (apply X.gsE; (· exact aR); (· exact aV); (· exact aW); (· intro hc; first | exact .callG rfl rfl rfl (by first | exact hck | exact c1) rfl | exact bg (hck) | exact bg (c1)); (· exact aR)) | refine rb ?_ | refine X.c0 (hcp) ?_ | refine nd ?_ | refine dk ?_ | fail)
    all_goals (try apply Held.mk)
    refine WP.join (ι := Unit) (fun _ => ⟨[(2, .optr 2 0), (3, .optr 3 0), (4, .optr 4 0), (6, .optr 6 0), (7, .fv (.int .i64 e))], [(2, .box 26 ((encCf c).map .fv)), (3, .box 74 ((encDe a).map .fv)), (4, .box 26 [.nil, .nil, .nil]), (6, .box 26 [.osl 18, .osl 318, .osl 618]), (18, .row 44 3 c.ss.length ((c.ss.flatMap encSw).map .fv)), (618, .row 38 9 c.acs.length ((c.acs.flatMap encAc).map .fv))]⟩) (fun _ => True) ?_ ?_
    · cases an with
      | false =>
        rw [if_pos rfl] at e0
        subst e0
        repeat' (first | refine X.loc ?_ | refine nx ?_ | refine X.cdT ?_ | refine X.cdF ?_ | refine cb ?_ ?_ | (refine cc ?_ ?_ <;> intro hcond) | refine rb ?_ | refine nd ?_ | refine dk ?_ | fail)
        refine ⟨(), trivial, ?_⟩
        exact tq [] []
      | true =>
        rw [if_neg (by simp)] at e0
        cases ir with
        | false =>
          simp [hk] at e0
          subst e0
          repeat' (first | (apply X.loE; (· exact aR); (· first | exact .callL rfl rfl rfl (c2) rfl | exact bl (c2))) | refine X.loc ?_ | refine nx ?_ | refine X.cdT ?_ | refine X.cdF ?_ | refine cb ?_ ?_ | (refine cc ?_ ?_ <;> intro hcond) | (apply X.gsE; (· exact aR); (· exact aV); (· exact aW); (· intro hc; first | exact .callG rfl rfl rfl (c2) rfl | exact bg (c2)); (· exact aR)) | refine rb ?_ | refine nd ?_ | refine dk ?_ | fail)
          all_goals (try (exfalso; simp [hk] at hcond; done))
          refine ⟨(), trivial, ?_⟩
          exact tq [] []
        | true =>
          rw [if_neg (by simp)] at e0
          subst e0
          repeat' (first | (apply X.loE; (· exact aR); (· first | exact .callL rfl rfl rfl (c2) rfl | exact bl (c2))) | refine X.loc ?_ | refine nx ?_ | refine X.cdT ?_ | refine X.cdF ?_ | refine cb ?_ ?_ | (refine cc ?_ ?_ <;> intro hcond) | (apply X.gsE; (· exact aR); (· exact aV); (· exact aW); (· intro hc; first | exact .callG rfl rfl rfl (c2) rfl | exact bg (c2)); (· exact aR)) | refine rb ?_ | refine nd ?_ | refine dk ?_ | fail)
          all_goals (try (exfalso; simp [hk] at hcond; done))
          refine ⟨(), trivial, ?_⟩
          exact tq [] []
    · rintro _ _
      try dsimp only
      repeat' (first | refine X.loc ?_ | refine nx ?_ | refine X.cdT ?_ | refine X.cdF ?_ | refine cb ?_ ?_ | (refine cc ?_ ?_ <;> intro hcond) | refine rb ?_ | refine nd ?_ | refine dk ?_ | fail)
      refine WP.loop (ι := Nat) (fun k => ⟨[(2, .optr 2 0), (3, .optr 3 0), (4, .optr 4 0), (6, .optr 6 0), (7, .fv (.int .i64 e)), (10, .fv (.int .i64 k))], [(2, .box 26 ((encCf c).map .fv)), (3, .box 74 ((encDe a).map .fv)), (4, .box 26 [.nil, .nil, .nil]), (6, .box 26 [.osl 18, .osl 900, .osl 618]), (18, .row 44 3 c.ss.length ((c.ss.flatMap encSw).map .fv)), (618, .row 38 9 c.acs.length ((c.acs.flatMap encAc).map .fv)), (900, .row 69 5 ((c.ps.take k).filterMap (keepP a)).length ((((c.ps.take k).filterMap (keepP a)).flatMap encPo).map .fv))]⟩) (fun k => k ≤ c.ps.length) (fun k => c.ps.length - k) 0 (by omega) ?_ ?_
      · exact tq [(900, .nil)] []
      rintro k hkl
      try dsimp only
      have hRk := hids k
      by_cases hlt : k < c.ps.length
      case neg =>
        rw [List.take_of_length_le (by omega)]
        rw [List.take_of_length_le (by omega)] at hRk
        by_cases he : e = 0
        · obtain ⟨f1, f2, f3⟩ := hfin he
          subst he
          generalize c.ps.filterMap (keepP a) = L at *
          repeat' (first | refine X.loc ?_ | refine nx ?_ | refine X.cdT ?_ | refine X.cdF ?_ | refine cb ?_ ?_ | (refine cc ?_ ?_ <;> intro hcond) | refine rb ?_ | refine nd ?_ | refine dk ?_ | fail)
          refine .le (s' := ⟨[(4, .optr 4 0), (5, .fv (.int .i64 0))], [(4, .box 26 ((encCf R).map .fv))]⟩) ?_ (.fun (.inl rfl) rfl rfl)
          refine St.to [] [18, 900, 618] rfl rfl ?_ ?_ <;> (repeat' (first | exact tA | refine t1 ?_ | exact tB | refine t2 ?_ ?_ | refine t3 ?_ | refine t4 ?_ ?_ | refine .ofEq ?_ | refine OB.To.cut rfl rfl ?_ ?_ ?_ ?_ | refine OB.To.box rfl rfl ?_ | refine ⟨⟨_, rfl, ?_⟩, ?_⟩ | refine ⟨?_, ?_⟩ | fail))
          all_goals first | (rw [f2]; done) | (rw [f3]; done) | (rw [f1]; done) | (simp [f1, f2, f3]; done)
        · skip
          repeat' (first | refine X.loc ?_ | refine nx ?_ | refine X.cdT ?_ | refine X.cdF ?_ | refine cb ?_ ?_ | (refine cc ?_ ?_ <;> intro hcond) | refine rb ?_ | refine nd ?_ | refine dk ?_ | fail)
          refine .le (s' := ⟨[(4, .optr 4 0), (5, .fv (.int .i64 e))], [(4, .box 26 ((encCf cf0).map .fv))]⟩) ?_ (.fun (.inl rfl) rfl ?_)
          · exact tq [] []
          · rw [hbad he]
            rfl
      case pos =>
        obtain ⟨x, hx⟩ : ∃ x, c.ps[k]? = some x := ⟨_, List.getElem?_eq_getElem hlt⟩
        have hsn : (c.ps.take (k + 1)).filterMap (keepP a) = (c.ps.take k).filterMap (keepP a) ++ (keepP a x).toList := by
          rw [List.take_add_one, hx, List.filterMap_append]
          have e1 : (some x).toList.filterMap (keepP a) = (keepP a x).toList := by
            show List.filterMap (keepP a) [x] = _
            rw [List.filterMap_cons]
            cases keepP a x <;> rfl
          rw [e1]
        generalize (c.ps.take k).filterMap (keepP a) = L at *
        by_cases hxn : x.id = a.n
        · have hkp : (keepP a x).toList = [] := by
            rw [keepP, if_pos hxn]
            simp [hk]
          rw [hkp] at hsn
          repeat' (first | (apply X.loE; (· exact aR); (· first | (exact .eff (.idxS rfl rfl rfl encPo_len hx)))) | refine X.loc ?_ | refine nx ?_ | refine X.cdT ?_ | refine X.cdF ?_ | refine cb ?_ ?_ | (refine cc ?_ ?_ <;> intro hcond) | (apply X.gsE; (· exact aR); (· exact aV); (· exact aW); (· intro hc; first | (exact .eff (.idxS rfl rfl rfl encPo_len hx))); (· exact aR)) | refine rb ?_ | refine nd ?_ | refine dk ?_ | fail)
          refine ⟨k + 1, by omega, by omega, ?_⟩
          try dsimp only
          rw [hsn]
          refine St.to [(900, .id 900)] [] rfl rfl ?_ ?_ <;> (repeat' (first | exact tA | refine t1 ?_ | exact tB | refine t2 ?_ ?_ | refine t3 ?_ | refine t4 ?_ ?_ | refine .ofEq ?_ | refine OB.To.cut rfl rfl ?_ ?_ ?_ ?_ | refine OB.To.box rfl rfl ?_ | refine ⟨⟨_, rfl, ?_⟩, ?_⟩ | refine ⟨?_, ?_⟩ | fail))
          all_goals first | (simp; done) | (simp only [List.flatMap_append, List.map_append]; rfl)
        · have hkp : (keepP a x).toList = [x] := by
            rw [keepP, if_neg hxn]
            rfl
          rw [hkp] at hsn
          repeat' (first | (apply X.loE; (· exact aR); (· first | (exact .eff (.idxS rfl rfl rfl encPo_len hx)))) | refine X.loc ?_ | refine nx ?_ | refine X.cdT ?_ | refine X.cdF ?_ | refine cb ?_ ?_ | (refine cc ?_ ?_ <;> intro hcond) | (apply X.gsE; (· exact aR); (· exact aV); (· exact aW); (· intro hc; first | (exact .eff (.idxS rfl rfl rfl encPo_len hx))); (· exact aR)) | refine rb ?_ | refine nd ?_ | refine dk ?_ | fail)
          refine ⟨k + 1, by omega, by omega, ?_⟩
          try dsimp only
          rw [hsn]
          refine St.to [(900, .id 116)] [] rfl rfl ?_ ?_ <;> (repeat' (first | exact tA | refine t1 ?_ | exact tB | refine t2 ?_ ?_ | refine t3 ?_ | refine t4 ?_ ?_ | refine .ofEq ?_ | refine OB.To.cut rfl rfl ?_ ?_ ?_ ?_ | refine OB.To.box rfl rfl ?_ | refine ⟨⟨_, rfl, ?_⟩, ?_⟩ | refine ⟨?_, ?_⟩ | fail))
          all_goals first | (simp; done) | (simp only [List.flatMap_append, List.map_append]; rfl)
  · skip
    repeat' (first | with_reducible refine WP.hold 71 ?_ | (apply X.loE; (· exact aR); (· first | exact .callL rfl rfl rfl (by first | exact hck | exact c1) rfl | exact bl (hck) | exact bl (c1))) | refine X.loc ?_ | refine nx ?_ | refine X.cdT ?_ | refine X.cdF ?_ | refine cb ?_ ?_ | (refine cc ?_ ?_ <;> intro hcond) | (apply X.gsE; (· exact aR); (· exact aV); (· exact aW); (· intro hc; first | exact .callG rfl rfl rfl (by first | exact hck | exact c1) rfl | exact bg (hck) | exact bg (c1)); (· exact aR)) | refine rb ?_ | refine X.c0 (hcp) ?_ | refine nd ?_ | refine dk ?_ | fail)
    all_goals (try apply Held.mk)
    refine WP.join (ι := Unit) (fun _ => ⟨[(2, .optr 2 0), (3, .optr 3 0), (4, .optr 4 0), (6, .optr 6 0), (7, .fv (.int .i64 e))], [(2, .box 26 ((encCf c).map .fv)), (3, .box 74 ((encDe a).map .fv)), (4, .box 26 [.nil, .nil, .nil]), (6, .box 26 [.osl 18, .osl 318, .osl 618]), (18, .row 44 3 c.ss.length ((c.ss.flatMap encSw).map .fv)), (618, .row 38 9 c.acs.length ((c.acs.flatMap encAc).map .fv))]⟩) (fun _ => True) ?_ ?_
    · cases an with
      | false =>
        rw [if_pos rfl] at e0
        subst e0
        repeat' (first | refine X.loc ?_ | refine nx ?_ | refine X.cdT ?_ | refine X.cdF ?_ | refine cb ?_ ?_ | (refine cc ?_ ?_ <;> intro hcond) | refine rb ?_ | refine nd ?_ | refine dk ?_ | fail)
        refine ⟨(), trivial, ?_⟩
        exact tq [] []
      | true =>
        rw [if_neg (by simp)] at e0
        cases ir with
        | false =>
          simp [hk] at e0
          subst e0
          repeat' (first | (apply X.loE; (· exact aR); (· first | exact .callL rfl rfl rfl (c2) rfl | exact bl (c2))) | refine X.loc ?_ | refine nx ?_ | refine X.cdT ?_ | refine X.cdF ?_ | refine cb ?_ ?_ | (refine cc ?_ ?_ <;> intro hcond) | (apply X.gsE; (· exact aR); (· exact aV); (· exact aW); (· intro hc; first | exact .callG rfl rfl rfl (c2) rfl | exact bg (c2)); (· exact aR)) | refine rb ?_ | refine nd ?_ | refine dk ?_ | fail)
          all_goals (try (exfalso; simp [hk] at hcond; done))
          refine ⟨(), trivial, ?_⟩
          exact tq [] []
        | true =>
          rw [if_neg (by simp)] at e0
          subst e0
          repeat' (first | (apply X.loE; (· exact aR); (· first | exact .callL rfl rfl rfl (c2) rfl | exact bl (c2))) | refine X.loc ?_ | refine nx ?_ | refine X.cdT ?_ | refine X.cdF ?_ | refine cb ?_ ?_ | (refine cc ?_ ?_ <;> intro hcond) | (apply X.gsE; (· exact aR); (· exact aV); (· exact aW); (· intro hc; first | exact .callG rfl rfl rfl (c2) rfl | exact bg (c2)); (· exact aR)) | refine rb ?_ | refine nd ?_ | refine dk ?_ | fail)
          all_goals (try (exfalso; simp [hk] at hcond; done))
          refine ⟨(), trivial, ?_⟩
          exact tq [] []
    · rintro _ _
      try dsimp only
      repeat' (first | refine X.loc ?_ | refine nx ?_ | refine X.cdT ?_ | refine X.cdF ?_ | refine cb ?_ ?_ | (refine cc ?_ ?_ <;> intro hcond) | refine rb ?_ | refine nd ?_ | refine dk ?_ | fail)
      refine WP.loop (ι := Nat) (fun k => ⟨[(2, .optr 2 0), (3, .optr 3 0), (4, .optr 4 0), (6, .optr 6 0), (7, .fv (.int .i64 e)), (10, .fv (.int .i64 k))], [(2, .box 26 ((encCf c).map .fv)), (3, .box 74 ((encDe a).map .fv)), (4, .box 26 [.nil, .nil, .nil]), (6, .box 26 [.osl 18, .osl 900, .osl 618]), (18, .row 44 3 c.ss.length ((c.ss.flatMap encSw).map .fv)), (618, .row 38 9 c.acs.length ((c.acs.flatMap encAc).map .fv)), (900, .row 69 5 ((c.ps.take k).filterMap (keepP a)).length ((((c.ps.take k).filterMap (keepP a)).flatMap encPo).map .fv))]⟩) (fun k => k ≤ c.ps.length) (fun k => c.ps.length - k) 0 (by omega) ?_ ?_
      · exact tq [(900, .nil)] []
      rintro k hkl
      try dsimp only
      have hRk := hids k
      by_cases hlt : k < c.ps.length
      case neg =>
        rw [List.take_of_length_le (by omega)]
        rw [List.take_of_length_le (by omega)] at hRk
        by_cases he : e = 0
        · obtain ⟨f1, f2, f3⟩ := hfin he
          subst he
          generalize c.ps.filterMap (keepP a) = L at *
          repeat' (first | refine X.loc ?_ | refine nx ?_ | refine X.cdT ?_ | refine X.cdF ?_ | refine cb ?_ ?_ | (refine cc ?_ ?_ <;> intro hcond) | refine rb ?_ | refine nd ?_ | refine dk ?_ | fail)
          refine .le (s' := ⟨[(4, .optr 4 0), (5, .fv (.int .i64 0))], [(4, .box 26 ((encCf R).map .fv))]⟩) ?_ (.fun (.inl rfl) rfl rfl)
          refine St.to [] [18, 900, 618] rfl rfl ?_ ?_ <;> (repeat' (first | exact tA | refine t1 ?_ | exact tB | refine t2 ?_ ?_ | refine t3 ?_ | refine t4 ?_ ?_ | refine .ofEq ?_ | refine OB.To.cut rfl rfl ?_ ?_ ?_ ?_ | refine OB.To.box rfl rfl ?_ | refine ⟨⟨_, rfl, ?_⟩, ?_⟩ | refine ⟨?_, ?_⟩ | fail))
          all_goals first | (rw [f2]; done) | (rw [f3]; done) | (rw [f1]; done) | (simp [f1, f2, f3]; done)
        · skip
          repeat' (first | refine X.loc ?_ | refine nx ?_ | refine X.cdT ?_ | refine X.cdF ?_ | refine cb ?_ ?_ | (refine cc ?_ ?_ <;> intro hcond) | refine rb ?_ | refine nd ?_ | refine dk ?_ | fail)
          refine .le (s' := ⟨[(4, .optr 4 0), (5, .fv (.int .i64 e))], [(4, .box 26 ((encCf cf0).map .fv))]⟩) ?_ (.fun (.inl rfl) rfl ?_)
          · exact tq [] []
          · rw [hbad he]
            rfl
      case pos =>
        obtain ⟨x, hx⟩ : ∃ x, c.ps[k]? = some x := ⟨_, List.getElem?_eq_getElem hlt⟩
        have hsn : (c.ps.take (k + 1)).filterMap (keepP a) = (c.ps.take k).filterMap (keepP a) ++ (keepP a x).toList := by
          rw [List.take_add_one, hx, List.filterMap_append]
          have e1 : (some x).toList.filterMap (keepP a) = (keepP a x).toList := by
            show List.filterMap (keepP a) [x] = _
            rw [List.filterMap_cons]
            cases keepP a x <;> rfl
          rw [e1]
        generalize (c.ps.take k).filterMap (keepP a) = L at *
        by_cases hxn : x.id = a.n
        · have hkp : (keepP a x).toList = [{ x with ch := a.m }] := by
            rw [keepP, if_pos hxn]
            simp [hk]
          rw [hkp] at hsn
          repeat' (first | (apply X.loE; (· exact aR); (· first | (exact .eff (.idxS rfl rfl rfl encPo_len hx)))) | refine X.loc ?_ | refine nx ?_ | refine X.cdT ?_ | refine X.cdF ?_ | refine cb ?_ ?_ | (refine cc ?_ ?_ <;> intro hcond) | (apply X.gsE; (· exact aR); (· exact aV); (· exact aW); (· intro hc; first | (exact .eff (.idxS rfl rfl rfl encPo_len hx))); (· exact aR)) | refine rb ?_ | refine nd ?_ | refine dk ?_ | fail)
          refine ⟨k + 1, by omega, by omega, ?_⟩
          try dsimp only
          rw [hsn]
          refine St.to [(900, .id 116)] [] rfl rfl ?_ ?_ <;> (repeat' (first | exact tA | refine t1 ?_ | exact tB | refine t2 ?_ ?_ | refine t3 ?_ | refine t4 ?_ ?_ | refine .ofEq ?_ | refine OB.To.cut rfl rfl ?_ ?_ ?_ ?_ | refine OB.To.box rfl rfl ?_ | refine ⟨⟨_, rfl, ?_⟩, ?_⟩ | refine ⟨?_, ?_⟩ | fail))
          all_goals first | (simp; done) | (simp only [List.flatMap_append, List.map_append]; rfl)
        · have hkp : (keepP a x).toList = [x] := by
            rw [keepP, if_neg hxn]
            rfl
          rw [hkp] at hsn
          repeat' (first | (apply X.loE; (· exact aR); (· first | (exact .eff (.idxS rfl rfl rfl encPo_len hx)))) | refine X.loc ?_ | refine nx ?_ | refine X.cdT ?_ | refine X.cdF ?_ | refine cb ?_ ?_ | (refine cc ?_ ?_ <;> intro hcond) | (apply X.gsE; (· exact aR); (· exact aV); (· exact aW); (· intro hc; first | (exact .eff (.idxS rfl rfl rfl encPo_len hx))); (· exact aR)) | refine rb ?_ | refine nd ?_ | refine dk ?_ | fail)
          refine ⟨k + 1, by omega, by omega, ?_⟩
          try dsimp only
          rw [hsn]
          refine St.to [(900, .id 116)] [] rfl rfl ?_ ?_ <;> (repeat' (first | exact tA | refine t1 ?_ | exact tB | refine t2 ?_ ?_ | refine t3 ?_ | refine t4 ?_ ?_ | refine .ofEq ?_ | refine OB.To.cut rfl rfl ?_ ?_ ?_ ?_ | refine OB.To.box rfl rfl ?_ | refine ⟨⟨_, rfl, ?_⟩, ?_⟩ | refine ⟨?_, ?_⟩ | fail))
          all_goals first | (simp; done) | (simp only [List.flatMap_append, List.map_append]; rfl)
set_option maxHeartbeats 4000000 in
theorem applied5_T (c : Cf) (a : De) (hl : c.Fit) (hm : cfMay c = true) (k : a.kind = 5) : Fun Tryz.prog 54 [.agg ((encCf c).map .fv), .agg ((encDe a).map .fv)] (.tup [.agg ((encCf (applyR c a)).map .fv), .fv (.int .i64 (applyE c a))]) := by
  have hck := confMay_T c hl.small
  refine Fun.body tbl_ok Tryz.func54 rfl (by kernel_rfl) rfl rfl rfl ?_
  rw [hm] at hck
  have hlen := cfMay_len hm
  have hcp := copyR_T c hl
  have b1 := hlen.ss
  have b2 := hlen.ps
  have b3 := hlen.acs
  have e0 : applyE c a = (if a.n < 0 ∨ (c.acs.length : Int) ≤ a.n then 6 else 0) := by
    rw [applyE, if_neg (by rw [hm]; decide), if_neg (by omega), if_neg (by omega), if_neg (by omega), if_neg (by omega), if_pos k]
  have hfin : applyE c a = 0 → c.acs.eraseIdx a.n.toNat = (applyR c a).acs ∧ (applyR c a).ss = c.ss ∧ (applyR c a).ps = c.ps := fun h0 => by
    rw [applyR_ok h0, applyC, if_neg (by omega), if_neg (by omega), if_neg (by omega), if_neg (by omega), if_neg (by omega)]
    exact ⟨rfl, rfl, rfl⟩
  have hbad : applyE c a ≠ 0 → applyR c a = cf0 := applyR_bad
  have hlen1 : applyE c a = 0 → (c.acs.eraseIdx a.n.toNat).length + 1 = c.acs.length := fun h0 => by
    rw [e0] at h0
    split at h0
    · omega
    rw [List.length_eraseIdx, if_pos (by omega)]
    omega
  have hlen2 : applyE c a ≠ 0 → (if a.n < 0 then c.acs else c.acs.eraseIdx a.n.toNat).length = c.acs.length ∧ applyE c a = 6 := fun h0 => by
    rw [e0] at h0 ⊢
    split at h0
    case isFalse => omega
    rename_i h1
    rw [if_pos h1]
    refine ⟨?_, rfl⟩
    split
    · rfl
    · rw [List.length_eraseIdx, if_neg (by omega)]
  generalize applyE c a = e at *
  generalize applyR c a = R at *
  let F : Nat → List Ac := fun k => if a.n < 0 then c.acs.take k else (c.acs.take k).eraseIdx a.n.toNat
  have hFl : ∀ k, (F k).length ≤ k := fun k => by
    show (if a.n < 0 then c.acs.take k else (c.acs.take k).eraseIdx a.n.toNat).length ≤ k
    have : (c.acs.take k).length ≤ k := by rw [List.length_take]; omega
    split
    · exact this
    · exact Nat.le_trans (List.length_eraseIdx_le _ _) this
  have hF0 : F 0 = [] := by
    show (if a.n < 0 then c.acs.take 0 else (c.acs.take 0).eraseIdx a.n.toNat) = []
    split <;> rfl
  have hFs : ∀ {k x}, c.acs[k]? = some x → F (k + 1) = if a.n = (k : Int) then F k else F k ++ [x] := fun {k x} hx => by
    show (if a.n < 0 then c.acs.take (k + 1) else (c.acs.take (k + 1)).eraseIdx a.n.toNat) = if a.n = (k : Int) then (if a.n < 0 then c.acs.take k else (c.acs.take k).eraseIdx a.n.toNat) else (if a.n < 0 then c.acs.take k else (c.acs.take k).eraseIdx a.n.toNat) ++ [x]
    by_cases h1 : a.n < 0
    · rw [if_pos h1, if_pos h1, if_neg (by omega), List.take_add_one, hx]
      rfl
    · rw [if_neg h1, if_neg h1, out_step hx]
      by_cases h2 : a.n = (k : Int)
      · rw [if_pos h2, if_pos (by omega)]
      · rw [if_neg h2, if_neg (by omega)]
  have hFn : F c.acs.length = if a.n < 0 then c.acs else c.acs.eraseIdx a.n.toNat := by
    show (if a.n < 0 then c.acs.take c.acs.length else (c.acs.take c.acs.length).eraseIdx a.n.toNat) = _
    rw [List.take_length]
  rw [← hFn] at hlen2
  generalize F = F at *
  repeat' (first | (apply X.loE; (· exact aR); (· first | exact .callL rfl rfl rfl (hck) rfl | exact bl (hck))) | refine X.loc ?_ | refine nx ?_ | refine X.cdT ?_ | refine X.cdF ?_ | refine cb ?_ ?_ | (refine cc ?_ ?_ <;> intro hcond) | (apply X.gsE; (· exact aR); (· exact aV); (· exact aW); (· intro hc; first | exact .callG rfl rfl rfl (hck) rfl | exact bg (hck)); (· exact aR)) | refine rb ?_ | refine X.c0 (hcp) ?_ | refine nd ?_ | refine dk ?_ | fail)
  refine WP.loop (ι := Nat) (fun k => ⟨[(2, .optr 2 0), (3, .optr 3 0), (4, .optr 4 0), (6, .optr 6 0), (7, .fv (.int .i64 0)), (12, .fv (.int .i64 k))], [(2, .box 26 ((encCf c).map .fv)), (3, .box 74 ((encDe a).map .fv)), (4, .box 26 [.nil, .nil, .nil]), (6, .box 26 [.osl 18, .osl 318, .osl 900]), (18, .row 44 3 c.ss.length ((c.ss.flatMap encSw).map .fv)), (318, .row 69 5 c.ps.length ((c.ps.flatMap encPo).map .fv)), (900, .row 38 9 (F k).length (((F k).flatMap encAc).map .fv))]⟩) (fun k => k ≤ c.acs.length) (fun k => c.acs.length - k) 0 (by omega) ?_ ?_
  · rw [hF0]
    exact tq [(900, .nil)] []
  rintro k hkl
  try dsimp only
  have hRk := hFl k
  by_cases hlt : k < c.acs.length
  case neg =>
    obtain rfl : k = c.acs.length := by omega
    by_cases he : e = 0
    · obtain ⟨f1, f2, f3⟩ := hfin he
      have hl1 := hlen1 he
      have hn : ¬ a.n < 0 := fun h => by rw [e0, if_pos (.inl h)] at he; omega
      rw [if_neg hn] at hFn
      rw [hFn] at hRk ⊢
      generalize c.acs.eraseIdx a.n.toNat = L at *
      subst he
      repeat' (first | refine X.loc ?_ | refine nx ?_ | refine X.cdT ?_ | refine X.cdF ?_ | refine cb ?_ ?_ | (refine cc ?_ ?_ <;> intro hcond) | refine rb ?_ | refine nd ?_ | refine dk ?_ | fail)
      refine .le (s' := ⟨[(4, .optr 4 0), (5, .fv (.int .i64 0))], [(4, .box 26 ((encCf R).map .fv))]⟩) ?_ (.fun (.inl rfl) rfl rfl)
      refine St.to [] [18, 318, 900] rfl rfl ?_ ?_ <;> (repeat' (first | exact tA | refine t1 ?_ | exact tB | refine t2 ?_ ?_ | refine t3 ?_ | refine t4 ?_ ?_ | refine .ofEq ?_ | refine OB.To.cut rfl rfl ?_ ?_ ?_ ?_ | refine OB.To.box rfl rfl ?_ | refine ⟨⟨_, rfl, ?_⟩, ?_⟩ | refine ⟨?_, ?_⟩ | fail))
      all_goals first | (rw [f2]; done) | (rw [f3]; done) | (rw [f1]; done) | (simp [f1, f2, f3]; done)
    · obtain ⟨hl2, he6⟩ := hlen2 he
      have hb := hbad he
      subst he6
      generalize F c.acs.length = L at *
      repeat' (first | refine X.loc ?_ | refine nx ?_ | refine X.cdT ?_ | refine X.cdF ?_ | refine cb ?_ ?_ | (refine cc ?_ ?_ <;> intro hcond) | refine rb ?_ | refine nd ?_ | refine dk ?_ | fail)
      refine .le (s' := ⟨[(4, .optr 4 0), (5, .fv (.int .i64 6))], [(4, .box 26 ((encCf cf0).map .fv))]⟩) ?_ (.fun (.inl rfl) rfl ?_)
      · exact tq [] []
      · rw [hb]
        rfl
  case pos =>
    obtain ⟨x, hx⟩ : ∃ x, c.acs[k]? = some x := ⟨_, List.getElem?_eq_getElem hlt⟩
    have hsn := hFs hx
    generalize F k = L at *
    by_cases hxn : a.n = (k : Int)
    · rw [if_pos hxn] at hsn
      repeat' (first | refine X.loc ?_ | refine nx ?_ | refine X.cdT ?_ | refine X.cdF ?_ | refine cb ?_ ?_ | (refine cc ?_ ?_ <;> intro hcond) | refine rb ?_ | refine nd ?_ | refine dk ?_ | fail)
      refine ⟨k + 1, by omega, by omega, ?_⟩
      try dsimp only
      rw [hsn]
      refine St.to [] [] rfl rfl ?_ ?_ <;> (repeat' (first | exact tA | refine t1 ?_ | exact tB | refine t2 ?_ ?_ | refine t3 ?_ | refine t4 ?_ ?_ | refine .ofEq ?_ | refine OB.To.cut rfl rfl ?_ ?_ ?_ ?_ | refine OB.To.box rfl rfl ?_ | refine ⟨⟨_, rfl, ?_⟩, ?_⟩ | refine ⟨?_, ?_⟩ | fail))
      all_goals first | (simp; done) | (simp only [List.flatMap_append, List.map_append]; rfl)
    · rw [if_neg hxn] at hsn
      repeat' (first | (apply X.loE; (· exact aR); (· first | (exact .eff (.idxS rfl rfl rfl encAc_len hx)))) | refine X.loc ?_ | refine nx ?_ | refine X.cdT ?_ | refine X.cdF ?_ | refine cb ?_ ?_ | (refine cc ?_ ?_ <;> intro hcond) | (apply X.gsE; (· exact aR); (· exact aV); (· exact aW); (· intro hc; first | (exact .eff (.idxS rfl rfl rfl encAc_len hx))); (· exact aR)) | refine rb ?_ | refine nd ?_ | refine dk ?_ | fail)
      refine ⟨k + 1, by omega, by omega, ?_⟩
      try dsimp only
      rw [hsn]
      refine St.to [(900, .id 140)] [] rfl rfl ?_ ?_ <;> (repeat' (first | exact tA | refine t1 ?_ | exact tB | refine t2 ?_ ?_ | refine t3 ?_ | refine t4 ?_ ?_ | refine .ofEq ?_ | refine OB.To.cut rfl rfl ?_ ?_ ?_ ?_ | refine OB.To.box rfl rfl ?_ | refine ⟨⟨_, rfl, ?_⟩, ?_⟩ | refine ⟨?_, ?_⟩ | fail))
      all_goals first | (simp; done) | (simp only [List.flatMap_append, List.map_append]; rfl)
theorem applied0_T (c : Cf) (a : De) (hl : c.Fit) (hm : cfMay c = true) (k1 : a.kind ≠ 1) (k2 : a.kind ≠ 2) (k3 : a.kind ≠ 3) (k4 : a.kind ≠ 4) (k5 : a.kind ≠ 5) (k6 : a.kind ≠ 6) : Fun Tryz.prog 54 [.agg ((encCf c).map .fv), .agg ((encDe a).map .fv)] (.tup [.agg ((encCf (applyR c a)).map .fv), .fv (.int .i64 (applyE c a))]) := by
  have hck := confMay_T c hl.small
  refine Fun.body tbl_ok Tryz.func54 rfl (by kernel_rfl) rfl rfl rfl ?_
  rw [hm] at hck
  have hlen := cfMay_len hm
  have hcp := copyR_T c hl
  have b1 := hlen.ss
  have b2 := hlen.ps
  have b3 := hlen.acs
  have e0 : applyE c a = 3 := by
    rw [applyE, if_neg (by rw [hm]; decide), if_neg k1, if_neg k2, if_neg k3, if_neg (by omega), if_neg k5]
  have hb := applyR_bad (show applyE c a ≠ 0 by omega)
  generalize applyE c a = e at *
  subst e0
  repeat' (first | (apply X.loE; (· exact aR); (· first | exact .callL rfl rfl rfl (hck) rfl | exact bl (hck))) | refine X.loc ?_ | refine nx ?_ | refine X.cdT ?_ | refine X.cdF ?_ | refine cb ?_ ?_ | (refine cc ?_ ?_ <;> intro hcond) | (apply X.gsE; (· exact aR); (· exact aV); (· exact aW); (· intro hc; first | exact .callG rfl rfl rfl (hck) rfl | exact bg (hck)); (· exact aR)) | refine rb ?_ | refine X.c0 (hcp) ?_ | refine nd ?_ | refine dk ?_ | fail)
  refine .le (s' := ⟨[(4, .optr 4 0), (5, .fv (.int .i64 3))], [(4, .box 26 ((encCf cf0).map .fv))]⟩) ?_ (.fun (.inl rfl) rfl ?_)
  · exact tq [] []
  · rw [hb]
    rfl
theorem appliedOf_T (c : Cf) (a : De) (hl : c.Fit) : Fun Tryz.prog 54 [.agg ((encCf c).map .fv), .agg ((encDe a).map .fv)] (.tup [.agg ((encCf (applyR c a)).map .fv), .fv (.int .i64 (applyE c a))]) := by
  cases hm : cfMay c with
  | false => exact appliedB_T c a hl hm
  | true =>
    by_cases k1 : a.kind = 1
    · exact applied1_T c a hl hm k1
    by_cases k2 : a.kind = 2
    · exact applied2_T c a hl hm k2
    by_cases k3 : a.kind = 3
    · exact applied3_T c a hl hm k3
    by_cases k4 : a.kind = 4
    · exact applied46_T c a hl hm (.inl k4)
    by_cases k6 : a.kind = 6
    · exact applied46_T c a hl hm (.inr k6)
    by_cases k5 : a.kind = 5
    · exact applied5_T c a hl hm k5
    · exact applied0_T c a hl hm k1 k2 k3 k4 k5 k6
end Go.Proofs.YtmidechdlbcepaaGreat
namespace Go.Proofs.YtmidechdlbcepaaGreat
open Go.ChangeShapes Go.WideShapes Go.ChangeAt Go.RowKit Go.Deep
set_option maxRecDepth 100000
section
variable {H : Type} {enc : TypeId × Value → H} {P : Program} {w : World} {base : Nat} {spare : Nat → Bool} {held : Bool} {Cl : TypeId → DataW H → Prop}
theorem sw_rep {cs : List Value} (h : AllOk enc P w base spare held Cl swLeaves cs) : ∃ x : Sw, x.Ok ∧ RepF w (encSw x) cs := by
  obtain ⟨x, rfl, hx⟩ := sw_of_ok h
  exact ⟨x, hx, fun _ => ⟨rfl, rfl, rfl, trivial⟩⟩
theorem po_rep {cs : List Value} (h : AllOk enc P w base spare held Cl poLeaves cs) : ∃ x : Po, x.Ok ∧ RepF w (encPo x) cs := by
  obtain ⟨x, rfl, hx⟩ := po_of_ok h
  exact ⟨x, hx, fun _ => ⟨rfl, rfl, rfl, rfl, rfl, trivial⟩⟩
theorem ac_rep {cs : List Value} (h : AllOk enc P w base spare held Cl acLeaves cs) : ∃ x : Ac, x.Ok ∧ RepF w (encAc x) cs := by
  obtain ⟨x, rfl, hx⟩ := ac_of_ok h
  exact ⟨x, hx, fun _ => ⟨rfl, rfl, rfl, rfl, rfl, rfl, rfl, rfl, rfl, trivial⟩⟩
end
end Go.Proofs.YtmidechdlbcepaaGreat