import Derived.Test.YtmidechdlbcepaaPack26
import Derived.Test.YtmidechdlbcepaaPack20
import Derived.Test.YtmidechdlbcepaaPack21
import Derived.Test.YtmidechdlbcepaaPack22
import Derived.Test.YtmidechdlbcepaaPack23
set_option linter.unusedSimpArgs false
set_option linter.unusedVariables false
namespace Go.Proofs.Ytmidechdlbcepaa
open Go.RowKit
set_option maxRecDepth 100000

theorem portOf_T (c : Cf) (n : Int) (hl : c.Small) : Fun Try.prog 77 [.agg ((encCf c).map .fv), .fv (.int .i64 n)] (.tup [.agg ((encPo ((c.ps.find? fun p => p.id == n).getD po0)).map .fv), .fv (.bool (c.ps.any fun p => p.id == n))]) := by
  have hl2 := hl.2.1
  refine Fun.body tbl_ok Try.func77 rfl (by kernel_rfl) rfl rfl rfl ?_
  repeat' (first | refine X.loc ?_ | refine nx ?_ | (refine WP.condBit rfl ?_ ?_) | (refine WP.cond rfl ?_ ?_ <;> intro hcond) | refine rb ?_ | refine nd ?_ | refine dk ?_ | fail)
  refine WP.loop (ι := Nat) (fun k => ⟨[(1, .fv (.int .i64 n)), (2, .optr 2 0), (4, .optr 4 0), (6, .fv (.int .i64 k))], [(2, .box 26 ((encCf c).map .fv)), (4, .box 66 ((encPo po0).map .fv))]⟩) (fun k => k ≤ c.ps.length ∧ ∀ p ∈ c.ps.take k, (p.id == n) = false) (fun k => c.ps.length - k) 0 ⟨by omega, by simp⟩ ?_ ?_
  · skip
    refine St.to [] [] rfl rfl ?_ ?_ <;> (repeat' (first | exact tA | refine t1 ?_ | exact tB | refine t2 ?_ ?_ | refine t3 ?_ | refine t4 ?_ ?_ | refine .ofEq ?_ | refine OB.To.cut rfl rfl ?_ ?_ ?_ ?_ | refine OB.To.box rfl rfl ?_ | refine ⟨⟨_, rfl, ?_⟩, ?_⟩ | refine ⟨?_, ?_⟩ | fail))
  rintro k ⟨hk, hd⟩
  try dsimp only
  by_cases hlt : k < c.ps.length
  case neg =>
    rw [List.take_of_length_le (by omega)] at hd
    have e1 : (c.ps.find? fun p => p.id == n) = none := List.find?_eq_none.2 fun p hp => by simpa using hd p hp
    have e2 : (c.ps.any fun p => p.id == n) = false := List.any_eq_false.2 fun p hp => by simpa using hd p hp
    rw [e1, e2]
    repeat' (first | refine X.loc ?_ | refine nx ?_ | refine X.cdT ?_ | refine X.cdF ?_ | (refine WP.condBit rfl ?_ ?_) | (refine WP.cond rfl ?_ ?_ <;> intro hcond) | refine rb ?_ | refine nd ?_ | refine dk ?_ | fail)
    exact .fun (.inl rfl) rfl rfl
  case pos =>
    obtain ⟨x, hx⟩ : ∃ x, c.ps[k]? = some x := ⟨_, List.getElem?_eq_getElem hlt⟩
    by_cases hxn : x.id = n
    · have e1 : (c.ps.find? fun p => p.id == n) = some x := by
        rw [List.find?_eq_some_iff_append]
        refine ⟨by simpa using hxn, c.ps.take k, c.ps.drop (k + 1), ?_, fun p hp => by simpa using hd p hp⟩
        rw [← drop_at hx, List.take_append_drop]
      have e2 : (c.ps.any fun p => p.id == n) = true := List.any_eq_true.2 ⟨x, List.mem_of_getElem? hx, by simpa using hxn⟩
      rw [e1, e2]
      repeat' (first | (apply X.loE; (· exact aR); (· first | (exact .eff (.idxS rfl rfl rfl encPo_len hx)))) | refine X.loc ?_ | refine nx ?_ | refine X.cdT ?_ | refine X.cdF ?_ | (refine WP.condBit rfl ?_ ?_) | (refine WP.cond rfl ?_ ?_ <;> intro hcond) | (apply X.gsE; (· exact aR); (· exact aV); (· exact aW); (· intro hc; first | (exact .eff (.idxS rfl rfl rfl encPo_len hx))); (· exact aR)) | refine rb ?_ | refine nd ?_ | refine dk ?_ | fail)
      exact .fun (.inl rfl) rfl rfl
    · skip
      repeat' (first | (apply X.loE; (· exact aR); (· first | (exact .eff (.idxS rfl rfl rfl encPo_len hx)))) | refine X.loc ?_ | refine nx ?_ | refine X.cdT ?_ | refine X.cdF ?_ | (refine WP.condBit rfl ?_ ?_) | (refine WP.cond rfl ?_ ?_ <;> intro hcond) | (apply X.gsE; (· exact aR); (· exact aV); (· exact aW); (· intro hc; first | (exact .eff (.idxS rfl rfl rfl encPo_len hx))); (· exact aR)) | refine rb ?_ | refine nd ?_ | refine dk ?_ | fail)
      refine ⟨k + 1, ⟨by omega, ?_⟩, by omega, ?_⟩
      · rw [List.take_add_one, hx]
        intro p hp
        simp at hp
        rcases hp with hp | rfl
        · exact hd p hp
        · simpa using hxn
      · skip
        refine St.to [] [] rfl rfl ?_ ?_ <;> (repeat' (first | exact tA | refine t1 ?_ | exact tB | refine t2 ?_ ?_ | refine t3 ?_ | refine t4 ?_ ?_ | refine .ofEq ?_ | refine OB.To.cut rfl rfl ?_ ?_ ?_ ?_ | refine OB.To.box rfl rfl ?_ | refine ⟨⟨_, rfl, ?_⟩, ?_⟩ | refine ⟨?_, ?_⟩ | fail))
end Go.Proofs.Ytmidechdlbcepaa

namespace Go.Proofs.Ytmidechdlbcepaa
open Go.RowKit
set_option maxRecDepth 100000

theorem prioA_getD {l : List Ac} {i : Int} (h : 0 ≤ i ∧ i < l.length) : prioA l i = (l.getD i.toNat ac0).prio := by
  obtain ⟨n, rfl⟩ := Int.eq_ofNat_of_zero_le h.1
  have hlt : n < l.length := by omega
  unfold prioA
  simp [List.getElem?_eq_getElem hlt]
theorem bstA_bd {l : List Ac} {q : Ac → Bool} {k : Nat} (hk : k ≤ l.length) : -1 ≤ bstA l q k ∧ (0 ≤ bstA l q k → 0 ≤ bstA l q k ∧ bstA l q k < l.length) := by
  rcases bstA_is l q k hk with ⟨h1, _⟩ | ⟨n, g, h1, _, h2, _⟩
  · omega
  · omega
def asksB (net : Int) (inn : Bool) (src dst port : Int) (a : Ac) : Bool := (a.inn == inn) && ruleFit net src dst port a
theorem allow_best (c : Cf) (net : Int) (inn : Bool) (src dst port : Int) : allowB c net inn src dst port = (decide (bstA c.acs (asksB net inn src dst port) c.acs.length < 0) || !(c.acs.getD (bstA c.acs (asksB net inn src dst port) c.acs.length).toNat ac0).deny) := by
  have h := bstA_is c.acs (asksB net inn src dst port) c.acs.length (Nat.le_refl _)
  have hb := (bstA_bd (q := asksB net inn src dst port) (Nat.le_refl c.acs.length)).2
  have hf := best_find (l := c.acs) (q1 := fun a => a.inn == inn) (q2 := ruleFit net src dst port) h
  have e : c.acs.filter (fun a => a.inn == inn) = ofKind c inn := rfl
  rw [e] at hf
  unfold allowB
  rw [hf]
  generalize bstA c.acs (asksB net inn src dst port) c.acs.length = i at *
  by_cases hi : i < 0
  · rw [if_pos hi, decide_eq_true hi]
    rfl
  · rw [if_neg hi, decide_eq_false hi, Bool.false_or]
    have := hb (by omega)
    obtain ⟨n, rfl⟩ := Int.eq_ofNat_of_zero_le this.1
    have hlt : n < c.acs.length := by omega
    simp [List.getElem?_eq_getElem hlt]
theorem asks_not {net : Int} {inn : Bool} {src dst port : Int} {a : Ac} : (!asksB net inn src dst port a) = ((((a.sw != net || !(a.inn == inn)) || src / unitOf a.srcBits != a.src / unitOf a.srcBits) || dst / unitOf a.dstBits != a.dst / unitOf a.dstBits) || (decide (a.port ≥ 0) && (a.port != port))) := by
  unfold asksB ruleFit
  have hp : (!decide (a.port < 0)) = decide (a.port ≥ 0) := by
    by_cases h : a.port < 0
    · rw [decide_eq_true h, decide_eq_false (by omega)]; rfl
    · rw [decide_eq_false h, decide_eq_true (by omega)]; rfl
  simp only [Bool.not_and, Bool.not_or, hp, bne]
  cases (a.inn == inn) <;> cases (a.sw == net) <;> simp [Bool.or_assoc]
set_option maxHeartbeats 8000000 in
theorem allows_T (c : Cf) (hc : CfOk c) (net : Int) (inn : Bool) (f : Fr) (hf : FrMay f) : Fun Try.prog 78 [.agg ((encCf c).map .fv), .fv (.int .i64 net), .fv (.bool inn), .agg ((encFr f).map .fv)] (.fv (.bool (allowB c net inn f.ipSrc f.ipDst f.port))) := by
  have hal := hc.al
  have hs := hf.ipSrc
  have hd := hf.ipDst
  refine Fun.body tbl_ok Try.func78 rfl (by kernel_rfl) rfl rfl rfl ?_
  repeat' (first | refine X.loc ?_ | refine nx ?_ | refine X.cdT ?_ | refine X.cdF ?_ | (refine WP.condBit rfl ?_ ?_) | (refine WP.cond rfl ?_ ?_ <;> intro hcond) | refine rb ?_ | refine nd ?_ | refine dk ?_ | fail)
  refine WP.loop (ι := Nat) (fun k => ⟨[(1, .fv (.int .i64 net)), (2, .fv (.bool inn)), (4, .optr 4 0), (7, .optr 7 0), (9, .fv (.int .i64 (bstA c.acs (asksB net inn f.ipSrc f.ipDst f.port) k))), (10, .fv (.int .i64 k))], [(4, .box 26 ((encCf c).map .fv)), (7, .box 28 ((encFr f).map .fv))]⟩) (fun k => k ≤ c.acs.length) (fun k => c.acs.length - k) 0 (by omega) ?_ ?_
  · skip
    refine St.to [] [] rfl rfl ?_ ?_ <;> (repeat' (first | exact tA | refine t1 ?_ | exact tB | refine t2 ?_ ?_ | refine t3 ?_ | refine t4 ?_ ?_ | refine .ofEq ?_ | refine OB.To.cut rfl rfl ?_ ?_ ?_ ?_ | refine OB.To.box rfl rfl ?_ | refine ⟨⟨_, rfl, ?_⟩, ?_⟩ | refine ⟨?_, ?_⟩ | fail))
  rintro k hk
  try dsimp only
  obtain ⟨hb1, hb2⟩ := bstA_bd (q := asksB net inn f.ipSrc f.ipDst f.port) hk
  by_cases hlt : k < c.acs.length
  case neg =>
    have hkl : k = c.acs.length := by omega
    rw [hkl] at hb1 hb2 ⊢
    rw [allow_best]
    generalize bstA c.acs (asksB net inn f.ipSrc f.ipDst f.port) c.acs.length = i at *
    repeat' (first | (apply X.loE; (· exact aR); (· first | (exact .eff (.idxD ac0 rfl rfl rfl encAc_len (hb2 (by have := hc; simp at this; omega)))))) | refine X.loc ?_ | refine nx ?_ | refine X.cdT ?_ | refine X.cdF ?_ | (refine WP.condBit rfl ?_ ?_) | (refine WP.cond rfl ?_ ?_ <;> intro hcond) | (apply X.gsE; (· exact aR); (· exact aV); (· exact aW); (· intro hc; first | (exact .eff (.idxD ac0 rfl rfl rfl encAc_len (hb2 (by have := hc; simp at this; omega))))); (· exact aR)) | refine rb ?_ | refine nd ?_ | refine dk ?_ | fail)
    exact .f1 (.inl rfl) rfl rfl
  case pos =>
    obtain ⟨x, hx⟩ : ∃ x, c.acs[k]? = some x := ⟨_, List.getElem?_eq_getElem hlt⟩
    obtain ⟨⟨⟨_, g1, g2, g3, g4, _⟩, _⟩, _⟩ := hc.ar x (List.mem_of_getElem? hx)
    obtain ⟨sb, hsb⟩ := Int.eq_ofNat_of_zero_le g3.1
    obtain ⟨db, hdb⟩ := Int.eq_ofNat_of_zero_le g4.1
    have m1 := unit_T sb (by omega)
    have m2 := unit_T db (by omega)
    rw [← hsb] at m1
    rw [← hdb] at m2
    have p1 : 0 < unitOf x.srcBits := by unfold unitOf; exact Int.pow_pos (by omega)
    have p2 : 0 < unitOf x.dstBits := by unfold unitOf; exact Int.pow_pos (by omega)
    have hst : bstA c.acs (asksB net inn f.ipSrc f.ipDst f.port) (k + 1) = if (asksB net inn f.ipSrc f.ipDst f.port x && (decide (bstA c.acs (asksB net inn f.ipSrc f.ipDst f.port) k < 0) || decide (x.prio > (c.acs.getD (bstA c.acs (asksB net inn f.ipSrc f.ipDst f.port) k).toNat ac0).prio))) = true then (k : Int) else bstA c.acs (asksB net inn f.ipSrc f.ipDst f.port) k := by
      simp only [bstA, hx]
      generalize bstA c.acs (asksB net inn f.ipSrc f.ipDst f.port) k = i at hb1 hb2 ⊢
      rcases Int.lt_or_le i 0 with h | h
      · simp [h]
      · rw [prioA_getD (hb2 h)]
    generalize bstA c.acs (asksB net inn f.ipSrc f.ipDst f.port) k = i at *
    repeat' (first | (apply X.loE; (· exact aR); (· first | (exact .eff (.idxS rfl rfl rfl encAc_len hx)) | (exact .eff (.idxD ac0 rfl rfl rfl encAc_len (hb2 (by have := hc; simp at this; omega)))) | exact .callL rfl rfl rfl (by first | exact m1 | exact m2) rfl | exact bl (m1) | exact bl (m2))) | refine X.loc ?_ | refine nx ?_ | (refine WP.condBit rfl ?_ ?_) | (refine WP.cond rfl ?_ ?_ <;> intro hcond) | (apply X.gsE; (· exact aR); (· exact aV); (· exact aW); (· intro hc; first | (exact .eff (.idxS rfl rfl rfl encAc_len hx)) | (exact .eff (.idxD ac0 rfl rfl rfl encAc_len (hb2 (by have := hc; simp at this; omega)))) | exact .callG rfl rfl rfl (by first | exact m1 | exact m2) rfl | exact bg (m1) | exact bg (m2)); (· exact aR)) | refine rb ?_ | refine nd ?_ | refine dk ?_ | fail)
    · have e : (!asksB net inn f.ipSrc f.ipDst f.port x) = true := asks_not.trans hcond
      refine ⟨k + 1, by omega, by omega, ?_⟩
      try dsimp only
      rw [hst, if_neg (fun h => by rw [Bool.and_eq_true] at h; rw [h.1] at e; cases e)]
      refine St.to [] [] rfl rfl ?_ ?_ <;> (repeat' (first | exact tA | refine t1 ?_ | exact tB | refine t2 ?_ ?_ | refine t3 ?_ | refine t4 ?_ ?_ | refine .ofEq ?_ | refine OB.To.cut rfl rfl ?_ ?_ ?_ ?_ | refine OB.To.box rfl rfl ?_ | refine ⟨⟨_, rfl, ?_⟩, ?_⟩ | refine ⟨?_, ?_⟩ | fail))
    · rename_i h1
      have e : (!asksB net inn f.ipSrc f.ipDst f.port x) = false := asks_not.trans h1
      refine ⟨k + 1, by omega, by omega, ?_⟩
      try dsimp only
      rw [hst, if_pos (by rw [Bool.and_eq_true]; exact ⟨by simpa using e, hcond⟩)]
      refine St.to [] [] rfl rfl ?_ ?_ <;> (repeat' (first | exact tA | refine t1 ?_ | exact tB | refine t2 ?_ ?_ | refine t3 ?_ | refine t4 ?_ ?_ | refine .ofEq ?_ | refine OB.To.cut rfl rfl ?_ ?_ ?_ ?_ | refine OB.To.box rfl rfl ?_ | refine ⟨⟨_, rfl, ?_⟩, ?_⟩ | refine ⟨?_, ?_⟩ | fail))
    · rename_i h1
      refine ⟨k + 1, by omega, by omega, ?_⟩
      try dsimp only
      rw [hst, if_neg (fun h => by rw [Bool.and_eq_true] at h; rw [hcond] at h; cases h.2)]
      refine St.to [] [] rfl rfl ?_ ?_ <;> (repeat' (first | exact tA | refine t1 ?_ | exact tB | refine t2 ?_ ?_ | refine t3 ?_ | refine t4 ?_ ?_ | refine .ofEq ?_ | refine OB.To.cut rfl rfl ?_ ?_ ?_ ?_ | refine OB.To.box rfl rfl ?_ | refine ⟨⟨_, rfl, ?_⟩, ?_⟩ | refine ⟨?_, ?_⟩ | fail))
    · exfalso
      simp at hcond
      omega
end Go.Proofs.Ytmidechdlbcepaa

namespace Go.Proofs.Ytmidechdlbcepaa
open Go.RowKit
set_option maxRecDepth 100000

theorem isNaN_T (n : Int) : Fun Try.prog 115 [.fv (.int .i64 n)] (.fv (.bool false)) := by
  refine Fun.body tbl_ok Try.func115 rfl (by kernel_rfl) rfl rfl rfl ?_
  repeat' (first | refine X.loc ?_ | refine nx ?_ | (refine WP.condBit rfl ?_ ?_) | (refine WP.cond rfl ?_ ?_ <;> intro hcond) | refine rb ?_ | refine nd ?_ | refine dk ?_ | fail)
  refine .f1 (.inl rfl) rfl ?_
  simp
theorem compare_T (a b : Int) : Fun Try.prog 88 [.fv (.int .i64 a), .fv (.int .i64 b)] (.fv (.int .i64 (cmpI a b))) := by
  refine Fun.body tbl_ok Try.func88 rfl (by kernel_rfl) rfl rfl rfl ?_
  by_cases h1 : a < b
  · have e : cmpI a b = -1 := if_pos h1
    rw [e]
    repeat' (first | (apply X.loE; (· exact aR); (· first | exact .callL rfl rfl rfl (by first | exact isNaN_T a | exact isNaN_T b) rfl | exact bl (isNaN_T a) | exact bl (isNaN_T b))) | refine X.loc ?_ | refine nx ?_ | refine X.cdT ?_ | refine X.cdF ?_ | (refine WP.condBit rfl ?_ ?_) | (refine WP.cond rfl ?_ ?_ <;> intro hcond) | (apply X.gsE; (· exact aR); (· exact aV); (· exact aW); (· intro hc; first | exact .callG rfl rfl rfl (by first | exact isNaN_T a | exact isNaN_T b) rfl | exact bg (isNaN_T a) | exact bg (isNaN_T b)); (· exact aR)) | refine rb ?_ | refine nd ?_ | refine dk ?_ | fail)
    exact .f1 (.inl rfl) rfl rfl
  · by_cases h2 : b < a
    · have e : cmpI a b = 1 := by rw [cmpI, if_neg h1, if_pos h2]
      rw [e]
      repeat' (first | (apply X.loE; (· exact aR); (· first | exact .callL rfl rfl rfl (by first | exact isNaN_T a | exact isNaN_T b) rfl | exact bl (isNaN_T a) | exact bl (isNaN_T b))) | refine X.loc ?_ | refine nx ?_ | refine X.cdT ?_ | refine X.cdF ?_ | (refine WP.condBit rfl ?_ ?_) | (refine WP.cond rfl ?_ ?_ <;> intro hcond) | (apply X.gsE; (· exact aR); (· exact aV); (· exact aW); (· intro hc; first | exact .callG rfl rfl rfl (by first | exact isNaN_T a | exact isNaN_T b) rfl | exact bg (isNaN_T a) | exact bg (isNaN_T b)); (· exact aR)) | refine rb ?_ | refine nd ?_ | refine dk ?_ | fail)
      exact .f1 (.inl rfl) rfl rfl
    · have e : cmpI a b = 0 := by rw [cmpI, if_neg h1, if_neg h2]
      rw [e]
      repeat' (first | (apply X.loE; (· exact aR); (· first | exact .callL rfl rfl rfl (by first | exact isNaN_T a | exact isNaN_T b) rfl | exact bl (isNaN_T a) | exact bl (isNaN_T b))) | refine X.loc ?_ | refine nx ?_ | refine X.cdT ?_ | refine X.cdF ?_ | (refine WP.condBit rfl ?_ ?_) | (refine WP.cond rfl ?_ ?_ <;> intro hcond) | (apply X.gsE; (· exact aR); (· exact aV); (· exact aW); (· intro hc; first | exact .callG rfl rfl rfl (by first | exact isNaN_T a | exact isNaN_T b) rfl | exact bg (isNaN_T a) | exact bg (isNaN_T b)); (· exact aR)) | refine rb ?_ | refine nd ?_ | refine dk ?_ | fail)
      exact .f1 (.inl rfl) rfl rfl
theorem compareL_T (l m : List Int) (hl : l.length < 9223372036854775807) (hm : m.length < 9223372036854775807) : Fun Try.prog 89 [.fv (slOf encI l), .fv (slOf encI m)] (.fv (.int .i64 (cmpL l m))) := by
  refine Fun.body tbl_ok Try.func89 rfl (by kernel_rfl) rfl rfl rfl ?_
  repeat' (first | refine X.loc ?_ | refine nx ?_ | (refine WP.condBit rfl ?_ ?_) | (refine WP.cond rfl ?_ ?_ <;> intro hcond) | refine rb ?_ | refine nd ?_ | refine dk ?_ | fail)
  refine WP.loop (ι := Nat) (fun k => ⟨[(0, .fv (slOf encI l)), (1, .fv (slOf encI m)), (9, .fv (slOf encI l)), (10, .fv (.int .i64 l.length)), (11, .fv (.int .i64 k))], []⟩) (fun k => k ≤ l.length ∧ k ≤ m.length ∧ cmpL l m = cmpL (l.drop k) (m.drop k)) (fun k => l.length - k) 0 ⟨by omega, by omega, rfl⟩ ?_ ?_
  · skip
    refine St.le_of ?_ ?_ <;> (repeat' (first | exact trivial | refine ⟨⟨_, rfl, .refl _⟩, ?_⟩ | refine ⟨⟨_, rfl, .any _⟩, ?_⟩ | refine ⟨⟨_, rfl, .of_eq ?_⟩, ?_⟩ | refine ⟨⟨_, rfl, fun _ _ _ _ h => h⟩, ?_⟩ | fail))
  rintro k ⟨hk, hkm, he⟩
  try dsimp only
  by_cases hlt : k < l.length
  case neg =>
    have hd : l.drop k = [] := List.drop_eq_nil_of_le (by omega)
    rw [he, hd]
    by_cases h2 : l.length < m.length
    · obtain ⟨y, r, hy⟩ : ∃ y r, m.drop k = y :: r := ⟨_, _, List.drop_eq_getElem_cons (by omega)⟩
      rw [hy, cmpL]
      repeat' (first | refine X.loc ?_ | refine nx ?_ | refine X.cdT ?_ | refine X.cdF ?_ | (refine WP.condBit rfl ?_ ?_) | (refine WP.cond rfl ?_ ?_ <;> intro hcond) | refine rb ?_ | refine nd ?_ | refine dk ?_ | fail)
      exact .f1 (.inl rfl) rfl rfl
    · rw [List.drop_eq_nil_of_le (show m.length ≤ k by omega), cmpL]
      repeat' (first | refine X.loc ?_ | refine nx ?_ | refine X.cdT ?_ | refine X.cdF ?_ | (refine WP.condBit rfl ?_ ?_) | (refine WP.cond rfl ?_ ?_ <;> intro hcond) | refine rb ?_ | refine nd ?_ | refine dk ?_ | fail)
      exact .f1 (.inl rfl) rfl rfl
  case pos =>
    obtain ⟨x, hx⟩ : ∃ x, l[k]? = some x := ⟨_, List.getElem?_eq_getElem hlt⟩
    have hdx : l.drop k = x :: l.drop (k + 1) := by rw [List.drop_eq_getElem_cons hlt, (List.getElem?_eq_some_iff.1 hx).2]
    by_cases h2 : k < m.length
    case neg =>
      rw [he, hdx, List.drop_eq_nil_of_le (show m.length ≤ k by omega), cmpL]
      repeat' (first | refine X.loc ?_ | refine nx ?_ | refine X.cdT ?_ | refine X.cdF ?_ | (refine WP.condBit rfl ?_ ?_) | (refine WP.cond rfl ?_ ?_ <;> intro hcond) | refine rb ?_ | refine nd ?_ | refine dk ?_ | fail)
      exact .f1 (.inl rfl) rfl rfl
    case pos =>
      obtain ⟨y, hy⟩ : ∃ y, m[k]? = some y := ⟨_, List.getElem?_eq_getElem h2⟩
      have hdy : m.drop k = y :: m.drop (k + 1) := by rw [List.drop_eq_getElem_cons h2, (List.getElem?_eq_some_iff.1 hy).2]
      rw [hdx, hdy, cmpL] at he
      have hc := compare_T x y
      generalize cmpI x y = c at *
      by_cases h0 : c = 0
      · rw [if_neg (by omega)] at he
        subst h0
        repeat' (first | (apply X.loE; (· exact aR); (· first | exact .callL rfl rfl rfl (hc) rfl | exact bl (hc))) | refine X.loc ?_ | refine nx ?_ | refine X.cdT ?_ | refine X.cdF ?_ | (refine WP.condBit rfl ?_ ?_) | (refine WP.cond rfl ?_ ?_ <;> intro hcond) | (apply X.gsE; (· exact aR); (· exact aV); (· exact aW); (· intro hc; first | exact .callG rfl rfl rfl (hc) rfl | exact bg (hc)); (· exact aR)) | refine rb ?_ | refine nd ?_ | refine dk ?_ | fail)
        refine ⟨k + 1, ⟨by omega, by omega, he⟩, by omega, ?_⟩
        refine St.le_of ?_ ?_ <;> (repeat' (first | exact trivial | refine ⟨⟨_, rfl, .refl _⟩, ?_⟩ | refine ⟨⟨_, rfl, .any _⟩, ?_⟩ | refine ⟨⟨_, rfl, .of_eq ?_⟩, ?_⟩ | refine ⟨⟨_, rfl, fun _ _ _ _ h => h⟩, ?_⟩ | fail))
      · rw [if_pos h0] at he
        rw [he]
        repeat' (first | (apply X.loE; (· exact aR); (· first | exact .callL rfl rfl rfl (hc) rfl | exact bl (hc))) | refine X.loc ?_ | refine nx ?_ | refine X.cdT ?_ | refine X.cdF ?_ | (refine WP.condBit rfl ?_ ?_) | (refine WP.cond rfl ?_ ?_ <;> intro hcond) | (apply X.gsE; (· exact aR); (· exact aV); (· exact aW); (· intro hc; first | exact .callG rfl rfl rfl (hc) rfl | exact bg (hc)); (· exact aR)) | refine rb ?_ | refine nd ?_ | refine dk ?_ | fail)
        exact .f1 (.inl rfl) rfl rfl
def orR : List Int → Int
  | [] => 0
  | x :: l => if x ≠ 0 then x else orR l
theorem or_T (l : List Int) (hl : l.length < 9223372036854775807) : Fun Try.prog 87 [.fv (slOf encI l)] (.fv (.int .i64 (orR l))) := by
  refine Fun.body tbl_ok Try.func87 rfl (by kernel_rfl) rfl rfl rfl ?_
  repeat' (first | refine X.loc ?_ | refine nx ?_ | (refine WP.condBit rfl ?_ ?_) | (refine WP.cond rfl ?_ ?_ <;> intro hcond) | refine rb ?_ | refine nd ?_ | refine dk ?_ | fail)
  refine WP.loop (ι := Nat) (fun k => ⟨[(0, .fv (slOf encI l)), (3, .fv (.int .i64 0)), (6, .fv (slOf encI l)), (7, .fv (.int .i64 l.length)), (8, .fv (.int .i64 k))], []⟩) (fun k => k ≤ l.length ∧ orR l = orR (l.drop k)) (fun k => l.length - k) 0 ⟨by omega, rfl⟩ ?_ ?_
  · skip
    refine St.le_of ?_ ?_ <;> (repeat' (first | exact trivial | refine ⟨⟨_, rfl, .refl _⟩, ?_⟩ | refine ⟨⟨_, rfl, .any _⟩, ?_⟩ | refine ⟨⟨_, rfl, .of_eq ?_⟩, ?_⟩ | refine ⟨⟨_, rfl, fun _ _ _ _ h => h⟩, ?_⟩ | fail))
  rintro k ⟨hk, he⟩
  try dsimp only
  by_cases hlt : k < l.length
  case neg =>
    rw [he, List.drop_eq_nil_of_le (by omega), orR]
    repeat' (first | refine X.loc ?_ | refine nx ?_ | refine X.cdT ?_ | refine X.cdF ?_ | (refine WP.condBit rfl ?_ ?_) | (refine WP.cond rfl ?_ ?_ <;> intro hcond) | refine rb ?_ | refine nd ?_ | refine dk ?_ | fail)
    exact .f1 (.inl rfl) rfl rfl
  case pos =>
    obtain ⟨x, hx⟩ : ∃ x, l[k]? = some x := ⟨_, List.getElem?_eq_getElem hlt⟩
    have hdx : l.drop k = x :: l.drop (k + 1) := by rw [List.drop_eq_getElem_cons hlt, (List.getElem?_eq_some_iff.1 hx).2]
    rw [hdx, orR] at he
    by_cases h0 : x = 0
    · rw [if_neg (by omega)] at he
      subst h0
      repeat' (first | refine X.loc ?_ | refine nx ?_ | refine X.cdT ?_ | refine X.cdF ?_ | (refine WP.condBit rfl ?_ ?_) | (refine WP.cond rfl ?_ ?_ <;> intro hcond) | refine rb ?_ | refine nd ?_ | refine dk ?_ | fail)
      refine ⟨k + 1, ⟨by omega, he⟩, by omega, ?_⟩
      refine St.le_of ?_ ?_ <;> (repeat' (first | exact trivial | refine ⟨⟨_, rfl, .refl _⟩, ?_⟩ | refine ⟨⟨_, rfl, .any _⟩, ?_⟩ | refine ⟨⟨_, rfl, .of_eq ?_⟩, ?_⟩ | refine ⟨⟨_, rfl, fun _ _ _ _ h => h⟩, ?_⟩ | fail))
    · rw [if_pos h0] at he
      rw [he]
      repeat' (first | refine X.loc ?_ | refine nx ?_ | refine X.cdT ?_ | refine X.cdF ?_ | (refine WP.condBit rfl ?_ ?_) | (refine WP.cond rfl ?_ ?_ <;> intro hcond) | refine rb ?_ | refine nd ?_ | refine dk ?_ | fail)
      exact .f1 (.inl rfl) rfl rfl
def Fl.Fit (f : Fl) : Prop := (2 + 3 * f.ms.length + 3 * f.ds.length) * 8 ≤ 140737488355328
theorem numsOf_len (f : Fl) : (numsOf f).length = 2 + 3 * f.ms.length + 3 * f.ds.length := by
  unfold numsOf
  rw [List.length_append, List.length_append, flat_len (s := 3) (fun _ => rfl), flat_len (s := 3) (fun _ => rfl)]
  rfl
set_option maxHeartbeats 1000000 in
theorem numbersO_T (f : Fl) (hf : f.Fit) : FunO Try.prog 90 [.agg ((encFl f).map .fv)] [] (.osl 7) [(7, .row 3 1 (numsOf f).length (((numsOf f).flatMap encI).map .fv))] := by
  unfold Fl.Fit at hf
  refine FunO.bodyL tbl_ok Try.func90 rfl (by kernel_rfl) rfl rfl rfl ?_
  repeat' (first | refine X.loc ?_ | refine nx ?_ | (refine WP.condBit rfl ?_ ?_) | (refine WP.cond rfl ?_ ?_ <;> intro hcond) | refine rb ?_ | refine nd ?_ | refine dk ?_ | fail)
  refine WP.loop (ι := Nat) (fun k => ⟨[(1, .optr 1 0), (3, .osl 900), (16, .fv (slOf encMx f.ms)), (17, .fv (.int .i64 f.ms.length)), (18, .fv (.int .i64 k))], [(1, .box 74 ((encFl f).map .fv)), (900, .row 3 1 (2 + 3 * k) ((([(f.ms.length : Int), (f.ds.length : Int)] ++ (f.ms.take k).flatMap mx3).flatMap encI).map .fv))]⟩) (fun k => k ≤ f.ms.length) (fun k => f.ms.length - k) 0 (by omega) ?_ ?_
  · skip
    refine St.to [(900, .id 14)] [] rfl rfl ?_ ?_ <;> (repeat' (first | exact tA | refine t1 ?_ | exact tB | refine t2 ?_ ?_ | refine t3 ?_ | refine t4 ?_ ?_ | refine .ofEq ?_ | refine OB.To.cut rfl rfl ?_ ?_ ?_ ?_ | refine OB.To.box rfl rfl ?_ | refine ⟨⟨_, rfl, ?_⟩, ?_⟩ | refine ⟨?_, ?_⟩ | fail))
  rintro k hk
  try dsimp only
  by_cases hlt : k < f.ms.length
  case pos =>
    obtain ⟨x, hx⟩ : ∃ x, f.ms[k]? = some x := ⟨_, List.getElem?_eq_getElem hlt⟩
    have hs : [(f.ms.length : Int), (f.ds.length : Int)] ++ (f.ms.take (k + 1)).flatMap mx3 = ([(f.ms.length : Int), (f.ds.length : Int)] ++ (f.ms.take k).flatMap mx3) ++ [x.field, x.mask, x.value] := by
      rw [List.take_add_one, hx]
      simp [mx3]
    generalize [(f.ms.length : Int), (f.ds.length : Int)] ++ (f.ms.take k).flatMap mx3 = L at *
    repeat' (first | refine X.loc ?_ | refine nx ?_ | refine X.cdT ?_ | refine X.cdF ?_ | (refine WP.condBit rfl ?_ ?_) | (refine WP.cond rfl ?_ ?_ <;> intro hcond) | refine rb ?_ | refine nd ?_ | refine dk ?_ | fail)
    refine ⟨k + 1, by omega, by omega, ?_⟩
    try dsimp only
    rw [hs]
    refine St.to [(900, .id 30)] [] rfl rfl ?_ ?_ <;> (repeat' (first | exact tA | refine t1 ?_ | exact tB | refine t2 ?_ ?_ | refine t3 ?_ | refine t4 ?_ ?_ | refine .ofEq ?_ | refine OB.To.cut rfl rfl ?_ ?_ ?_ ?_ | refine OB.To.box rfl rfl ?_ | refine ⟨⟨_, rfl, ?_⟩, ?_⟩ | refine ⟨?_, ?_⟩ | fail))
    all_goals first | omega | (simp; done) | (simp; omega) | (simp only [List.flatMap_append, List.map_append]; rfl)
  case neg =>
    obtain rfl : k = f.ms.length := by omega
    rw [List.take_length]
    repeat' (first | refine X.loc ?_ | refine nx ?_ | refine X.cdT ?_ | refine X.cdF ?_ | (refine WP.condBit rfl ?_ ?_) | (refine WP.cond rfl ?_ ?_ <;> intro hcond) | refine rb ?_ | refine nd ?_ | refine dk ?_ | fail)
    refine WP.loop (ι := Nat) (fun k => ⟨[(1, .optr 1 0), (3, .osl 900), (33, .fv (slOf encDx f.ds)), (34, .fv (.int .i64 f.ds.length)), (35, .fv (.int .i64 k))], [(1, .box 74 ((encFl f).map .fv)), (900, .row 3 1 (2 + 3 * f.ms.length + 3 * k) ((([(f.ms.length : Int), (f.ds.length : Int)] ++ f.ms.flatMap mx3 ++ (f.ds.take k).flatMap dx3).flatMap encI).map .fv))]⟩) (fun k => k ≤ f.ds.length) (fun k => f.ds.length - k) 0 (by omega) ?_ ?_
    · rw [List.take_zero, List.flatMap_nil, List.append_nil]
      refine St.to [(900, .id 900)] [] rfl rfl ?_ ?_ <;> (repeat' (first | exact tA | refine t1 ?_ | exact tB | refine t2 ?_ ?_ | refine t3 ?_ | refine t4 ?_ ?_ | refine .ofEq ?_ | refine OB.To.cut rfl rfl ?_ ?_ ?_ ?_ | refine OB.To.box rfl rfl ?_ | refine ⟨⟨_, rfl, ?_⟩, ?_⟩ | refine ⟨?_, ?_⟩ | fail))
      all_goals omega
    rintro k hk
    try dsimp only
    by_cases hlt : k < f.ds.length
    case pos =>
      obtain ⟨x, hx⟩ : ∃ x, f.ds[k]? = some x := ⟨_, List.getElem?_eq_getElem hlt⟩
      have hs : [(f.ms.length : Int), (f.ds.length : Int)] ++ f.ms.flatMap mx3 ++ (f.ds.take (k + 1)).flatMap dx3 = ([(f.ms.length : Int), (f.ds.length : Int)] ++ f.ms.flatMap mx3 ++ (f.ds.take k).flatMap dx3) ++ [x.kind, x.a, x.n] := by
        rw [List.take_add_one, hx]
        simp [dx3]
      generalize [(f.ms.length : Int), (f.ds.length : Int)] ++ f.ms.flatMap mx3 ++ (f.ds.take k).flatMap dx3 = L at *
      repeat' (first | refine X.loc ?_ | refine nx ?_ | refine X.cdT ?_ | refine X.cdF ?_ | (refine WP.condBit rfl ?_ ?_) | (refine WP.cond rfl ?_ ?_ <;> intro hcond) | refine rb ?_ | refine nd ?_ | refine dk ?_ | fail)
      refine ⟨k + 1, by omega, by omega, ?_⟩
      try dsimp only
      rw [hs]
      refine St.to [(900, .id 47)] [] rfl rfl ?_ ?_ <;> (repeat' (first | exact tA | refine t1 ?_ | exact tB | refine t2 ?_ ?_ | refine t3 ?_ | refine t4 ?_ ?_ | refine .ofEq ?_ | refine OB.To.cut rfl rfl ?_ ?_ ?_ ?_ | refine OB.To.box rfl rfl ?_ | refine ⟨⟨_, rfl, ?_⟩, ?_⟩ | refine ⟨?_, ?_⟩ | fail))
      all_goals first | omega | (simp; done) | (simp; omega) | (simp only [List.flatMap_append, List.map_append]; rfl)
    case neg =>
      obtain rfl : k = f.ds.length := by omega
      rw [List.take_length]
      have hn : [(f.ms.length : Int), (f.ds.length : Int)] ++ f.ms.flatMap mx3 ++ f.ds.flatMap dx3 = numsOf f := rfl
      have hlen := numsOf_len f
      rw [hn]
      generalize numsOf f = L at *
      repeat' (first | refine X.loc ?_ | refine nx ?_ | refine X.cdT ?_ | refine X.cdF ?_ | (refine WP.condBit rfl ?_ ?_) | (refine WP.cond rfl ?_ ?_ <;> intro hcond) | refine rb ?_ | refine nd ?_ | refine dk ?_ | fail)
      rw [← hlen]
      refine .ofL (s' := ⟨[(2, .osl 7)], [(7, .row 3 1 L.length ((L.flatMap encI).map .fv))]⟩) (by first | exact .inl rfl | exact .inr rfl) ?_ rfl rfl (by repeat' (first | exact trivial | refine ⟨⟨_, rfl, fun _ _ _ _ h => h⟩, ?_⟩))
      refine St.to [(7, .id 900)] [] rfl rfl ?_ ?_ <;> (repeat' (first | exact tA | refine t1 ?_ | exact tB | refine t2 ?_ ?_ | refine t3 ?_ | refine t4 ?_ ?_ | refine .ofEq ?_ | refine OB.To.cut rfl rfl ?_ ?_ ?_ ?_ | refine OB.To.box rfl rfl ?_ | refine ⟨⟨_, rfl, ?_⟩, ?_⟩ | refine ⟨?_, ?_⟩ | fail))
theorem numbers_T (f : Fl) (hf : f.Fit) : Fun Try.prog 90 [.agg ((encFl f).map .fv)] (.fv (slOf encI (numsOf f))) :=
  (numbersO_T f hf).froz [7] (.frz rfl rfl rfl)
theorem orR_ord (x y : Fl) : orR [cmpI x.table y.table, cmpI y.prio x.prio, cmpL (numsOf x) (numsOf y)] = ordF x y := by
  unfold ordF keyOf
  rw [cmpL, cmpL, cmpI_swap, orR, orR, orR, orR]
  split
  · rfl
  · split
    · rfl
    · split
      · rfl
      · omega
set_option maxHeartbeats 1000000 in
theorem order_T (x y : Fl) (hx : x.Fit) (hy : y.Fit) : Fun Try.prog 55 [.agg ((encFl x).map .fv), .agg ((encFl y).map .fv)] (.fv (.int .i64 (ordF x y))) := by
  have c1 := compare_T x.table y.table
  have c2 := compare_T y.prio x.prio
  have n1 := numbers_T x hx
  have n2 := numbers_T y hy
  have c3 := compareL_T (numsOf x) (numsOf y) (by rw [numsOf_len]; unfold Fl.Fit at hx; omega) (by rw [numsOf_len]; unfold Fl.Fit at hy; omega)
  have c4 := or_T [cmpI x.table y.table, cmpI y.prio x.prio, cmpL (numsOf x) (numsOf y)] (by simp)
  rw [orR_ord] at c4
  generalize ordF x y = o at *
  generalize cmpL (numsOf x) (numsOf y) = o3 at *
  generalize cmpI x.table y.table = o1 at *
  generalize cmpI y.prio x.prio = o2 at *
  refine Fun.body tbl_ok Try.func55 rfl (by kernel_rfl) rfl rfl rfl ?_
  repeat' (first | (apply X.loE; (· exact aR); (· first | exact .eff (.bsliceFS rfl rfl rfl rfl rfl rfl) | exact .callL rfl rfl rfl (by first | exact c1 | exact c2 | exact n1 | exact n2 | exact c3 | exact c4) rfl | exact bl (c1) | exact bl (c2) | exact bl (n1) | exact bl (n2) | exact bl (c3) | exact bl (c4))) | refine X.loc ?_ | refine nx ?_ | refine X.cdT ?_ | refine X.cdF ?_ | (refine WP.condBit rfl ?_ ?_) | (refine WP.cond rfl ?_ ?_ <;> intro hcond) | (apply X.gsE; (· exact aR); (· exact aV); (· exact aW); (· intro hc; first | exact .eff (.bsliceFS rfl rfl rfl rfl rfl rfl) | exact .callG rfl rfl rfl (by first | exact c1 | exact c2 | exact n1 | exact n2 | exact c3 | exact c4) rfl | exact bg (c1) | exact bg (c2) | exact bg (n1) | exact bg (n2) | exact bg (c3) | exact bg (c4)); (· exact aR)) | refine rb ?_ | refine nd ?_ | refine dk ?_ | fail)
  exact .f1 (.inl rfl) rfl rfl
end Go.Proofs.Ytmidechdlbcepaa

namespace Go.Proofs.Ytmidechdlbcepaa
open Go.RowKit
set_option maxRecDepth 100000

theorem is_T (a b : Int) : Fun Try.prog 62 [.fv (.int .i64 a), .fv (.int .i64 b)] (.agg ((encMx ⟨a, 65535, b⟩).map .fv)) := by
  refine Fun.body tbl_ok Try.func62 rfl (by kernel_rfl) rfl rfl rfl ?_
  repeat' (first | refine X.loc ?_ | refine nx ?_ | (refine WP.condBit rfl ?_ ?_) | (refine WP.cond rfl ?_ ?_ <;> intro hcond) | refine rb ?_ | refine nd ?_ | refine dk ?_ | fail)
  exact .fun (.inl rfl) rfl rfl
theorem to_T (a : Int) : Fun Try.prog 63 [.fv (.int .i64 a)] (.agg ((encDx ⟨4, 0, a⟩).map .fv)) := by
  refine Fun.body tbl_ok Try.func63 rfl (by kernel_rfl) rfl rfl rfl ?_
  repeat' (first | refine X.loc ?_ | refine nx ?_ | (refine WP.condBit rfl ?_ ?_) | (refine WP.cond rfl ?_ ?_ <;> intro hcond) | refine rb ?_ | refine nd ?_ | refine dk ?_ | fail)
  exact .fun (.inl rfl) rfl rfl
theorem put_T (a b : Int) : Fun Try.prog 65 [.fv (.int .i64 a), .fv (.int .i64 b)] (.agg ((encDx ⟨1, a, b⟩).map .fv)) := by
  refine Fun.body tbl_ok Try.func65 rfl (by kernel_rfl) rfl rfl rfl ?_
  repeat' (first | refine X.loc ?_ | refine nx ?_ | (refine WP.condBit rfl ?_ ?_) | (refine WP.cond rfl ?_ ?_ <;> intro hcond) | refine rb ?_ | refine nd ?_ | refine dk ?_ | fail)
  exact .fun (.inl rfl) rfl rfl
theorem copied_T (a b : Int) : Fun Try.prog 70 [.fv (.int .i64 a), .fv (.int .i64 b)] (.agg ((encDx ⟨2, a, b⟩).map .fv)) := by
  refine Fun.body tbl_ok Try.func70 rfl (by kernel_rfl) rfl rfl rfl ?_
  repeat' (first | refine X.loc ?_ | refine nx ?_ | (refine WP.condBit rfl ?_ ?_) | (refine WP.cond rfl ?_ ?_ <;> intro hcond) | refine rb ?_ | refine nd ?_ | refine dk ?_ | fail)
  exact .fun (.inl rfl) rfl rfl
def mkC (c : Cf) (ch : Int) (l : AV) : List AV := (encCf c).map .fv ++ [.fv (.int .i64 ch), l]
def mkB (c : Cf) (ch : Int) (g : Nat) : OB := .box 59 (mkC c ch (.osl g))
def flR (L : List Fl) : OB := .row 74 4 L.length ((L.flatMap encFl).map .fv)
theorem add_T (c : Cf) (ch : Int) (L : List Fl) (f : Fl) (hL : (L.length + 1) * 64 ≤ 140737488355328) : FunO Try.prog 61 [.optr 1000 0, .fv (.int .i64 f.table), .fv (.int .i64 f.prio), .fv (slOf encMx f.ms), .fv (slOf encDx f.ds)] [(1000, mkB c ch 1001), (1001, flR L)] (.tup []) [(1000, mkB c ch 7), (7, flR (L ++ [f]))] := by
  refine FunO.bodyL tbl_ok Try.func61 rfl (by kernel_rfl) rfl rfl rfl ?_
  unfold mkB flR mkC
  repeat' (first | refine X.loc ?_ | refine nx ?_ | refine X.cdT ?_ | refine X.cdF ?_ | (refine WP.condBit rfl ?_ ?_) | (refine WP.cond rfl ?_ ?_ <;> intro hcond) | refine rb ?_ | refine nd ?_ | refine dk ?_ | fail)
  refine .ofL (s' := ⟨[], [(1000, .box 59 ((encCf c).map .fv ++ [.fv (.int .i64 ch), .osl 7])), (7, .row 74 4 (L ++ [f]).length (((L ++ [f]).flatMap encFl).map .fv))]⟩) (by first | exact .inl rfl | exact .inr rfl) ?_ rfl rfl (by repeat' (first | exact trivial | refine ⟨⟨_, rfl, fun _ _ _ _ h => h⟩, ?_⟩))
  refine St.to [(7, .id 21)] [] rfl rfl ?_ ?_ <;> (repeat' (first | exact tA | refine t1 ?_ | exact tB | refine t2 ?_ ?_ | refine t3 ?_ | refine t4 ?_ ?_ | refine .ofEq ?_ | refine OB.To.cut rfl rfl ?_ ?_ ?_ ?_ | refine OB.To.box rfl rfl ?_ | refine ⟨⟨_, rfl, ?_⟩, ?_⟩ | refine ⟨?_, ?_⟩ | fail))
  all_goals first | omega | (simp; done) | (simp only [List.flatMap_append, List.map_append]; rfl)
end Go.Proofs.Ytmidechdlbcepaa

namespace Go.Proofs.Ytmidechdlbcepaa
open Go.RowKit
set_option maxRecDepth 100000

end Go.Proofs.Ytmidechdlbcepaa

namespace Go.Proofs.Ytmidechdlbcepaa
open Go.RowKit
set_option maxRecDepth 100000

def tb8 (t : Int) : Int := if t < 0 then 8 else t
theorem tb8_nn {t : Int} (h : 0 ≤ t) : tb8 t = t := if_neg (by omega)
def okJ (p : Pk) (t : Int) (f : Fl) (j : Nat) : Bool := f.table == t && (f.ms.take j).all fun m => maskd (getP p m.field.toNat) m.mask == m.value
theorem okJ_at {p : Pk} {t : Int} {f : Fl} {j : Nat} {m : Mx} (h : f.ms[j]? = some m) : okJ p t f (j + 1) = (okJ p t f j && (maskd (getP p m.field.toNat) m.mask == m.value)) := by
  unfold okJ
  have : f.ms.take (j + 1) = f.ms.take j ++ [m] := by rw [List.take_add_one, h]; rfl
  rw [this, List.all_append]
  simp [Bool.and_assoc]
theorem okJ_end (p : Pk) (t : Int) (f : Fl) : okJ p t f f.ms.length = (f.table == t && fitsB p f) := by
  unfold okJ fitsB
  rw [List.take_length]
theorem IsB.none {l : List Fl} {q : Fl → Bool} {n : Nat} : IsB l q n n (-1) := .inl ⟨rfl, fun j f h1 h2 => by omega⟩
theorem IsB.bd {l : List Fl} {q : Fl → Bool} {a b : Nat} {i : Int} (h : IsB l q a b i) : -1 ≤ i ∧ (0 ≤ i → i < b) := by
  rcases h with ⟨h, _⟩ | ⟨k, g, h, _, h2, _⟩ <;> omega
set_option maxHeartbeats 8000000 in
theorem ranOf_T (l : List Fl) (p : Pk) : Fun Try.prog 37 [.fv (slOf encFl l), .agg ((encPk p).map .fv)] (.tup [.fv (slOf encSnt (ranR l p)), .fv (.int .i64 (ranFault l p))]) := by
  have hc := FlowsFault_T l
  have hk := packetFault_T p
  refine Fun.body tbl_ok Try.func37 rfl (by kernel_rfl) rfl rfl rfl ?_
  repeat' (first | (apply X.loE; (· exact aR); (· first | exact .callL rfl rfl rfl (by first | exact hc | exact hk) rfl | exact bl (hc) | exact bl (hk))) | refine X.loc ?_ | refine nx ?_ | (refine WP.condBit rfl ?_ ?_) | (refine WP.cond rfl ?_ ?_ <;> intro hcond) | (apply X.gsE; (· exact aR); (· exact aV); (· exact aW); (· intro hc; first | exact .callG rfl rfl rfl (by first | exact hc | exact hk) rfl | exact bg (hc) | exact bg (hk)); (· exact aR)) | refine rb ?_ | refine nd ?_ | refine dk ?_ | fail)
  · refine .le (s' := ⟨[(4, .fv (slOf encSnt [])), (5, .fv (.int .i64 (packetFault p)))], []⟩) ?_ (.fun (.inl rfl) rfl ?_)
    · skip
      refine St.to [] [] rfl rfl ?_ ?_ <;> (repeat' (first | exact tA | refine t1 ?_ | exact tB | refine t2 ?_ ?_ | refine t3 ?_ | refine t4 ?_ ?_ | refine .ofEq ?_ | refine OB.To.cut rfl rfl ?_ ?_ ?_ ?_ | refine OB.To.box rfl rfl ?_ | refine ⟨⟨_, rfl, ?_⟩, ?_⟩ | refine ⟨?_, ?_⟩ | fail))
    · rename_i h2
      have h0 : packetFault p ≠ 0 := by simpa using hcond
      have h1 : ranFault l p = packetFault p := if_neg (by simpa using h2)
      rw [ranR, h1, if_pos h0]
      rfl
  rotate_left
  · refine .le (s' := ⟨[(4, .fv (slOf encSnt [])), (5, .fv (.int .i64 (flowsFault l)))], []⟩) ?_ (.fun (.inl rfl) rfl ?_)
    · skip
      refine St.to [] [] rfl rfl ?_ ?_ <;> (repeat' (first | exact tA | refine t1 ?_ | exact tB | refine t2 ?_ ?_ | refine t3 ?_ | refine t4 ?_ ?_ | refine .ofEq ?_ | refine OB.To.cut rfl rfl ?_ ?_ ?_ ?_ | refine OB.To.box rfl rfl ?_ | refine ⟨⟨_, rfl, ?_⟩, ?_⟩ | refine ⟨?_, ?_⟩ | fail))
    · have h0 : flowsFault l ≠ 0 := by simpa using hcond
      have h1 : ranFault l p = flowsFault l := if_pos h0
      rw [ranR, h1, if_pos h0]
      rfl
  · exfalso
    rename_i h2
    simp at hcond h2
    omega
  have hff : flowsFault l = 0 := by rename_i h2; simpa using h2
  have hpf : packetFault p = 0 := by simpa using hcond
  have hrf : ranFault l p = 0 := by unfold ranFault; rw [if_neg (by omega)]; exact hpf
  have hrr : ranR l p = ranOf l p := by unfold ranR; rw [if_neg (by omega)]
  have hwd : p.Wd := wd_of hpf
  obtain ⟨hl5, hfm⟩ := flowsMay hff
  clear hcond
  refine WP.loop (ι := Rs) (fun s => ⟨[(0, .fv (slOf encFl l)), (3, .optr 3 0), (7, .osl 900), (8, .fv (.int .i64 (tb8 s.table)))], [(3, .box 50 ((encPk s.p).map .fv)), (900, .row 94 13 s.out.length ((s.out.flatMap encSnt).map .fv))]⟩)
    (runP l p) (fun s => if s.table < 0 then 0 else (8 - s.table).toNat) ⟨p, 0, []⟩ ⟨hwd, by simp, .inr ⟨by simp, by simp, by simp, rfl⟩⟩ ?_ ?_
  · skip
    refine St.to [(900, .nil)] [] rfl rfl ?_ ?_ <;> (repeat' (first | exact tA | refine t1 ?_ | exact tB | refine t2 ?_ ?_ | refine t3 ?_ | refine t4 ?_ ?_ | refine .ofEq ?_ | refine OB.To.cut rfl rfl ?_ ?_ ?_ ?_ | refine OB.To.box rfl rfl ?_ | refine ⟨⟨_, rfl, ?_⟩, ?_⟩ | refine ⟨?_, ?_⟩ | fail))
  rintro s ⟨hsw, hso, hs⟩
  try dsimp only
  by_cases ht : s.table < 0
  case pos =>
    have h8 : tb8 s.table = 8 := if_pos ht
    rw [h8]
    repeat' (first | refine X.loc ?_ | refine nx ?_ | (refine WP.condBit rfl ?_ ?_) | (refine WP.cond rfl ?_ ?_ <;> intro hcond) | refine rb ?_ | refine nd ?_ | refine dk ?_ | fail)
    refine .le (s' := ⟨[(4, .fv (slOf encSnt s.out)), (5, .fv (.int .i64 0))], []⟩) ?_ (.fun (.inl rfl) rfl ?_)
    · skip
      refine St.to [] [900] rfl rfl ?_ ?_ <;> (repeat' (first | exact tA | refine t1 ?_ | exact tB | refine t2 ?_ ?_ | refine t3 ?_ | refine t4 ?_ ?_ | refine .ofEq ?_ | refine OB.To.cut rfl rfl ?_ ?_ ?_ ?_ | refine OB.To.box rfl rfl ?_ | refine ⟨⟨_, rfl, ?_⟩, ?_⟩ | refine ⟨?_, ?_⟩ | fail))
    · rcases hs with ⟨_, h⟩ | ⟨h, _⟩
      · rw [hrr, hrf, h]
        rfl
      · omega
  case neg =>
    obtain ⟨h0, h7, ho, hrun⟩ : 0 ≤ s.table ∧ s.table ≤ 7 ∧ s.out.length ≤ 100 * s.table.toNat ∧ runN l 8 ⟨p, 0, []⟩ = runN l (8 - s.table.toNat) s := by
      rcases hs with ⟨h, _⟩ | h
      · omega
      · exact h
    have hstep : runN l (8 - s.table.toNat) s = runN l (7 - s.table.toNat) (execT l s) := by
      rw [show 8 - s.table.toNat = (7 - s.table.toNat) + 1 from by omega, runN, if_pos (by omega)]
    rw [tb8_nn h0]
    repeat' (first | refine X.loc ?_ | refine nx ?_ | (refine WP.condBit rfl ?_ ?_) | (refine WP.cond rfl ?_ ?_ <;> intro hcond) | refine rb ?_ | refine nd ?_ | refine dk ?_ | fail)
    rotate_left
    · exfalso
      simp at hcond
      omega
    clear hcond
    refine WP.loop (ι := Nat × Int) (fun q => ⟨[(0, .fv (slOf encFl l)), (3, .optr 3 0), (7, .osl 900), (8, .fv (.int .i64 s.table)), (9, .fv (.int .i64 q.2)), (10, .fv (.int .i64 ((q.1 : Int) - 1)))], [(3, .box 50 ((encPk s.p).map .fv)), (900, .row 94 13 s.out.length ((s.out.flatMap encSnt).map .fv))]⟩)
      (fun q => q.1 ≤ l.length ∧ IsB l (fun f => f.table == s.table && fitsB s.p f) q.1 l.length q.2) (fun q => q.1) (l.length, -1) ⟨Nat.le_refl _, .none⟩ ?_ ?_
    · skip
      refine St.to [] [] rfl rfl ?_ ?_ <;> (repeat' (first | exact tA | refine t1 ?_ | exact tB | refine t2 ?_ ?_ | refine t3 ?_ | refine t4 ?_ ?_ | refine .ofEq ?_ | refine OB.To.cut rfl rfl ?_ ?_ ?_ ?_ | refine OB.To.box rfl rfl ?_ | refine ⟨⟨_, rfl, ?_⟩, ?_⟩ | refine ⟨?_, ?_⟩ | fail))
    rintro ⟨k, b⟩ ⟨hk, hb⟩
    dsimp only at hk hb ⊢
    obtain ⟨hbd1, hbd2⟩ := hb.bd
    by_cases hk0 : 0 < k
    case pos =>
      obtain ⟨i, rfl⟩ : ∃ i, k = i + 1 := ⟨k - 1, by omega⟩
      have hi : ((i + 1 : Nat) : Int) - 1 = (i : Int) := by omega
      rw [hi]
      have hilt : i < l.length := by omega
      obtain ⟨f, hf⟩ : ∃ f, l[i]? = some f := ⟨_, List.getElem?_eq_getElem hilt⟩
      have hfu := hfm f (List.mem_of_getElem? hf)
      have hms := hfu.ms
      repeat' (first | (apply X.loE; (· exact aR); (· first | (exact .eff (.idxS rfl rfl rfl encFl_len hf)))) | refine X.loc ?_ | refine nx ?_ | (refine WP.condBit rfl ?_ ?_) | (refine WP.cond rfl ?_ ?_ <;> intro hcond) | (apply X.gsE; (· exact aR); (· exact aV); (· exact aW); (· intro hc; first | (exact .eff (.idxS rfl rfl rfl encFl_len hf))); (· exact aR)) | refine rb ?_ | refine nd ?_ | refine dk ?_ | fail)
      refine WP.loop (ι := Nat) (fun j => ⟨[(0, .fv (slOf encFl l)), (3, .optr 3 0), (7, .osl 900), (8, .fv (.int .i64 s.table)), (9, .fv (.int .i64 b)), (10, .fv (.int .i64 (i : Int))), (11, .fv (.bool (okJ s.p s.table f j))), (12, .fv (.int .i64 j))], [(3, .box 50 ((encPk s.p).map .fv)), (900, .row 94 13 s.out.length ((s.out.flatMap encSnt).map .fv))]⟩)
        (fun j => j ≤ f.ms.length) (fun j => f.ms.length - j) 0 (by omega) ?_ ?_
      · skip
        refine St.to [] [] rfl rfl ?_ ?_ <;> (repeat' (first | exact tA | refine t1 ?_ | exact tB | refine t2 ?_ ?_ | refine t3 ?_ | refine t4 ?_ ?_ | refine .ofEq ?_ | refine OB.To.cut rfl rfl ?_ ?_ ?_ ?_ | refine OB.To.box rfl rfl ?_ | refine ⟨⟨_, rfl, ?_⟩, ?_⟩ | refine ⟨?_, ?_⟩ | fail))
        all_goals simp [okJ]
      rintro j hj
      try dsimp only
      by_cases hjlt : j < f.ms.length
      case pos =>
        obtain ⟨m, hm⟩ : ∃ m, f.ms[j]? = some m := ⟨_, List.getElem?_eq_getElem hjlt⟩
        have hmo := mxOk_at (List.all_eq_true.1 hfu.mok m (List.mem_of_getElem? hm))
        have hm1 := hmo.1
        have hm2 := hm1.1
        have hm3 := hm1.2
        have hgw := word_iff.1 (hsw m.field.toNat (by omega))
        have hmw := word_iff.1 hmo.2.1
        have hmt := masked_T (getP s.p m.field.toNat) m.mask hgw hmw
        repeat' (first | (apply X.loE; (· exact aR); (· first | (exact .eff (.idxS rfl rfl rfl encFl_len hf)) | (exact .eff (.idxS rfl rfl rfl encMx_len hm)) | (exact .eff (.loadO rfl rfl (readPo hm1))) | exact .callL rfl rfl rfl (hmt) rfl | exact bl (hmt))) | refine X.loc ?_ | refine nx ?_ | (refine WP.condBit rfl ?_ ?_) | (refine WP.cond rfl ?_ ?_ <;> intro hcond) | (apply X.gsE; (· exact aR); (· exact aV); (· exact aW); (· intro hc; first | (exact .eff (.idxS rfl rfl rfl encFl_len hf)) | (exact .eff (.idxS rfl rfl rfl encMx_len hm)) | (exact .eff (.loadO rfl rfl (readPo hm1))) | exact .callG rfl rfl rfl (hmt) rfl | exact bg (hmt)); (· exact aR)) | refine rb ?_ | refine nd ?_ | refine dk ?_ | fail)
        · refine ⟨j + 1, by omega, by omega, ?_⟩
          refine St.to [] [] rfl rfl ?_ ?_ <;> (repeat' (first | exact tA | refine t1 ?_ | exact tB | refine t2 ?_ ?_ | refine t3 ?_ | refine t4 ?_ ?_ | refine .ofEq ?_ | refine OB.To.cut rfl rfl ?_ ?_ ?_ ?_ | refine OB.To.box rfl rfl ?_ | refine ⟨⟨_, rfl, ?_⟩, ?_⟩ | refine ⟨?_, ?_⟩ | fail))
          all_goals rw [okJ_at hm]
        · exfalso
          simp at hcond
          omega
      case neg =>
        have hje : j = f.ms.length := by omega
        subst hje
        have hdn := hb.down hf hilt
        have hpd : 0 ≤ b → (l.getD b.toNat fl0).prio = prioAt l b := fun h => (prioAt_getD ⟨h, hbd2 h⟩).symm
        have hq := okJ_end s.p s.table f
        repeat' (first | (apply X.loE; (· exact aR); (· first | (exact .eff (.idxS rfl rfl rfl encFl_len hf)) | (exact .eff (.idxD fl0 rfl rfl rfl encFl_len (by have := hc; simp at this; omega))))) | refine X.loc ?_ | refine nx ?_ | (refine WP.condBit rfl ?_ ?_) | (refine WP.cond rfl ?_ ?_ <;> intro hcond) | (apply X.gsE; (· exact aR); (· exact aV); (· exact aW); (· intro hc; first | (exact .eff (.idxS rfl rfl rfl encFl_len hf)) | (exact .eff (.idxD fl0 rfl rfl rfl encFl_len (by have := hc; simp at this; omega)))); (· exact aR)) | refine rb ?_ | refine nd ?_ | refine dk ?_ | fail)
        · exfalso
          simp at hcond
        · refine ⟨(i, (i : Int)), ⟨by dsimp only; omega, ?_⟩, by dsimp only; omega, ?_⟩
          · rw [if_pos] at hdn
            · exact hdn
            · rw [hq] at hcond
              rcases Int.lt_or_le b 0 with h | h
              · simp only [h, decide_true, Bool.true_or, Bool.and_true] at hcond ⊢
                exact hcond
              · rw [hpd h] at hcond; exact hcond
          · skip
            refine St.to [] [] rfl rfl ?_ ?_ <;> (repeat' (first | exact tA | refine t1 ?_ | exact tB | refine t2 ?_ ?_ | refine t3 ?_ | refine t4 ?_ ?_ | refine .ofEq ?_ | refine OB.To.cut rfl rfl ?_ ?_ ?_ ?_ | refine OB.To.box rfl rfl ?_ | refine ⟨⟨_, rfl, ?_⟩, ?_⟩ | refine ⟨?_, ?_⟩ | fail))
        · refine ⟨(i, b), ⟨by dsimp only; omega, ?_⟩, by dsimp only; omega, ?_⟩
          · rw [if_neg] at hdn
            · exact hdn
            · rw [hq] at hcond
              rcases Int.lt_or_le b 0 with h | h
              · simp only [h, decide_true, Bool.true_or, Bool.and_true] at hcond ⊢
                rw [hcond]; simp
              · rw [hpd h] at hcond; rw [hcond]; simp
          · skip
            refine St.to [] [] rfl rfl ?_ ?_ <;> (repeat' (first | exact tA | refine t1 ?_ | exact tB | refine t2 ?_ ?_ | refine t3 ?_ | refine t4 ?_ ?_ | refine .ofEq ?_ | refine OB.To.cut rfl rfl ?_ ?_ ?_ ?_ | refine OB.To.box rfl rfl ?_ | refine ⟨⟨_, rfl, ?_⟩, ?_⟩ | refine ⟨?_, ?_⟩ | fail))
    case neg =>
      have hke : k = 0 := by omega
      subst hke
      have hbest : bestOf l s.table s.p = b := (bst_is l _ l.length (Nat.le_refl _)).uniq hb
      repeat' (first | refine X.loc ?_ | refine nx ?_ | (refine WP.condBit rfl ?_ ?_) | (refine WP.cond rfl ?_ ?_ <;> intro hcond) | refine rb ?_ | refine nd ?_ | refine dk ?_ | fail)
      by_cases hb0 : b < 0
      case pos =>
        have hex : execT l s = { s with table := -1 } := by
          unfold execT
          rw [hbest]
          split
          · rw [if_pos hb0]
          · rfl
        refine WP.loop (ι := Unit) (fun _ => ⟨[(0, .fv (slOf encFl l)), (3, .optr 3 0), (7, .osl 900), (8, .fv (.int .i64 8)), (9, .fv (.int .i64 b)), (14, .fv (.int .i64 0))], [(3, .box 50 ((encPk s.p).map .fv)), (900, .row 94 13 s.out.length ((s.out.flatMap encSnt).map .fv))]⟩)
          (fun _ => True) (fun _ => 0) () trivial ?_ ?_
        · skip
          refine St.to [] [] rfl rfl ?_ ?_ <;> (repeat' (first | exact tA | refine t1 ?_ | exact tB | refine t2 ?_ ?_ | refine t3 ?_ | refine t4 ?_ ?_ | refine .ofEq ?_ | refine OB.To.cut rfl rfl ?_ ?_ ?_ ?_ | refine OB.To.box rfl rfl ?_ | refine ⟨⟨_, rfl, ?_⟩, ?_⟩ | refine ⟨?_, ?_⟩ | fail))
        rintro _ _
        try dsimp only
        repeat' (first | (apply X.loE; (· exact aR); (· first | (exact .eff (.idxD fl0 rfl rfl rfl encFl_len (by have := hc; simp at this; omega))))) | refine X.loc ?_ | refine nx ?_ | (refine WP.condBit rfl ?_ ?_) | (refine WP.cond rfl ?_ ?_ <;> intro hcond) | (apply X.gsE; (· exact aR); (· exact aV); (· exact aW); (· intro hc; first | (exact .eff (.idxD fl0 rfl rfl rfl encFl_len (by have := hc; simp at this; omega)))); (· exact aR)) | refine rb ?_ | refine nd ?_ | refine dk ?_ | fail)
        · exfalso
          simp at hcond
          omega
        · refine ⟨{ s with table := -1 }, ⟨hsw, hso, .inl ⟨rfl, ?_⟩⟩, ?_, ?_⟩
          · unfold ranOf
            rw [hrun, hstep, hex, runN_done l (7 - s.table.toNat) { s with table := -1 } (by show (-1 : Int) < 0; omega) (by omega)]
          · rw [if_neg ht]
            dsimp only
            rw [if_pos (by omega)]
            omega
          · skip
            refine St.to [] [] rfl rfl ?_ ?_ <;> (repeat' (first | exact tA | refine t1 ?_ | exact tB | refine t2 ?_ ?_ | refine t3 ?_ | refine t4 ?_ ?_ | refine .ofEq ?_ | refine OB.To.cut rfl rfl ?_ ?_ ?_ ?_ | refine OB.To.box rfl rfl ?_ | refine ⟨⟨_, rfl, ?_⟩, ?_⟩ | refine ⟨?_, ?_⟩ | fail))
      case neg =>
        obtain ⟨k, f, rfl, _, _, hx, hqf, _⟩ : ∃ k g, b = ((k : Nat) : Int) ∧ 0 ≤ k ∧ k < l.length ∧ l[k]? = some g ∧ (g.table == s.table && fitsB s.p g) = true ∧ True := by
          rcases hb with ⟨h, _⟩ | ⟨k, g, h1, h2, h3, h4, h5, _⟩
          · exfalso
            omega
          · exact ⟨k, g, h1, h2, h3, h4, h5, trivial⟩
        have hfu := hfm f (List.mem_of_getElem? hx)
        have hft : f.table = s.table := by simp at hqf; exact hqf.1
        have hex : execT l s = f.ds.foldl stepD { s with table := -1 } := by
          unfold execT
          rw [hbest, Int.toNat_natCast, hx]
          dsimp only
          rw [if_neg (by omega)]
        have hds := hfu.ds
        refine WP.loop (ι := Nat × Rs) (fun q => ⟨[(0, .fv (slOf encFl l)), (3, .optr 3 0), (7, .osl 900), (8, .fv (.int .i64 (tb8 q.2.table))), (9, .fv (.int .i64 (k : Int))), (14, .fv (.int .i64 q.1))], [(3, .box 50 ((encPk q.2.p).map .fv)), (900, .row 94 13 q.2.out.length ((q.2.out.flatMap encSnt).map .fv))]⟩)
          (fun q => q.1 ≤ f.ds.length ∧ (f.ds.drop q.1).foldl stepD q.2 = execT l s ∧ q.2.p.Wd ∧ q.2.out.length ≤ s.out.length + q.1 ∧ (q.2.table = -1 ∨ (s.table < q.2.table ∧ q.2.table ≤ 7))) (fun q => f.ds.length - q.1) (0, { s with table := -1 }) ⟨by omega, hex.symm, hsw, by dsimp only; omega, .inl rfl⟩ ?_ ?_
        · skip
          refine St.to [] [] rfl rfl ?_ ?_ <;> (repeat' (first | exact tA | refine t1 ?_ | exact tB | refine t2 ?_ ?_ | refine t3 ?_ | refine t4 ?_ ?_ | refine .ofEq ?_ | refine OB.To.cut rfl rfl ?_ ?_ ?_ ?_ | refine OB.To.box rfl rfl ?_ | refine ⟨⟨_, rfl, ?_⟩, ?_⟩ | refine ⟨?_, ?_⟩ | fail))
        rintro ⟨j, r⟩ ⟨hj, hfold, hrw, hro, hrt⟩
        dsimp only at hj hfold hrw hro hrt ⊢
        by_cases hjlt : j < f.ds.length
        case neg =>
          have hr : r = execT l s := by rw [List.drop_of_length_le (by omega)] at hfold; exact hfold
          repeat' (first | (apply X.loE; (· exact aR); (· first | (exact .eff (.idxS rfl rfl rfl encFl_len hx)))) | refine X.loc ?_ | refine nx ?_ | (refine WP.condBit rfl ?_ ?_) | (refine WP.cond rfl ?_ ?_ <;> intro hcond) | (apply X.gsE; (· exact aR); (· exact aV); (· exact aW); (· intro hc; first | (exact .eff (.idxS rfl rfl rfl encFl_len hx))); (· exact aR)) | refine rb ?_ | refine nd ?_ | refine dk ?_ | fail)
          · exfalso
            simp at hcond
            omega
          · refine ⟨r, ⟨hrw, by omega, ?_⟩, ?_, ?_⟩
            · rcases hrt with h | h
              · left
                refine ⟨h, ?_⟩
                unfold ranOf
                rw [hrun, hstep, ← hr, runN_done _ _ _ (by omega) (by omega)]
              · right
                refine ⟨by omega, h.2, by omega, ?_⟩
                rw [hrun, hstep, ← hr]
                have := runN_skip l (7 - r.table.toNat) (6 - s.table.toNat) r (by omega) (by omega)
                rw [show 6 - s.table.toNat + 1 = 7 - s.table.toNat from by omega, show 7 - r.table.toNat + 1 = 8 - r.table.toNat from by omega] at this
                exact this
            · rw [if_neg ht]
              split <;> omega
            · skip
              refine St.to [] [] rfl rfl ?_ ?_ <;> (repeat' (first | exact tA | refine t1 ?_ | exact tB | refine t2 ?_ ?_ | refine t3 ?_ | refine t4 ?_ ?_ | refine .ofEq ?_ | refine OB.To.cut rfl rfl ?_ ?_ ?_ ?_ | refine OB.To.box rfl rfl ?_ | refine ⟨⟨_, rfl, ?_⟩, ?_⟩ | refine ⟨?_, ?_⟩ | fail))
        case pos =>
          obtain ⟨d, hd⟩ : ∃ d, f.ds[j]? = some d := ⟨_, List.getElem?_eq_getElem hjlt⟩
          obtain ⟨b, hmay⟩ := dxOk_mem hfu.dok (List.mem_of_getElem? hd)
          obtain ⟨u1, u2, u3, u4, u5⟩ := dxMay_use hmay
          obtain ⟨v1, v2, v3⟩ := stepD_keeps (s := r) hrw hmay
          have hnext : (f.ds.drop (j + 1)).foldl stepD (stepD r d) = execT l s := by
            rw [← hfold, List.drop_eq_getElem_cons hjlt, (List.getElem?_eq_some_iff.1 hd).2]
            rfl
          have hpq : (j + 1 ≤ f.ds.length ∧ (f.ds.drop (j + 1)).foldl stepD (stepD r d) = execT l s ∧ (stepD r d).p.Wd ∧ (stepD r d).out.length ≤ s.out.length + (j + 1) ∧ ((stepD r d).table = -1 ∨ (s.table < (stepD r d).table ∧ (stepD r d).table ≤ 7))) := by
            refine ⟨by omega, hnext, v1, by omega, ?_⟩
            rcases v3 with h | h
            · rw [h]; exact hrt
            · right; omega
          obtain ⟨dk, da, dn⟩ := d
          dsimp only at u1 u2 u3 u4 u5
          rcases u5 with e | e | e | e | e | e <;> subst e
          · have ha : 0 ≤ Dx.a ⟨1, da, dn⟩ ∧ Dx.a ⟨1, da, dn⟩ ≤ 9 := (u1 rfl).1
            have ha1 := ha.1
            have ha2 := ha.2
            have hs : stepD r ⟨1, da, dn⟩ = { r with p := setP r.p da.toNat dn } := rfl
            rw [hs] at hpq
            repeat' (first | (apply X.loE; (· exact aR); (· first | (exact .eff (.idxS rfl rfl rfl encFl_len hx)) | (exact .eff (.idxS rfl rfl rfl encDx_len hd)))) | refine X.loc ?_ | (apply X.stBE; (· exact aS); (· exact (setPo ha)); (· exact aE)) | refine nx ?_ | (refine WP.condBit rfl ?_ ?_) | (refine WP.cond rfl ?_ ?_ <;> intro hcond) | (apply X.gsE; (· exact aR); (· exact aV); (· exact aW); (· intro hc; first | (exact .eff (.idxS rfl rfl rfl encFl_len hx)) | (exact .eff (.idxS rfl rfl rfl encDx_len hd))); (· exact aR)) | refine rb ?_ | refine nd ?_ | refine dk ?_ | fail)
            · refine ⟨(j + 1, { r with p := setP r.p da.toNat dn }), hpq, by dsimp only; omega, ?_⟩
              refine St.to [] [] rfl rfl ?_ ?_ <;> (repeat' (first | exact tA | refine t1 ?_ | exact tB | refine t2 ?_ ?_ | refine t3 ?_ | refine t4 ?_ ?_ | refine .ofEq ?_ | refine OB.To.cut rfl rfl ?_ ?_ ?_ ?_ | refine OB.To.box rfl rfl ?_ | refine ⟨⟨_, rfl, ?_⟩, ?_⟩ | refine ⟨?_, ?_⟩ | fail))
            · exfalso
              simp at hcond
              omega
          · obtain ⟨ha, hn⟩ : (0 ≤ Dx.a ⟨2, da, dn⟩ ∧ Dx.a ⟨2, da, dn⟩ ≤ 9) ∧ (0 ≤ Dx.n ⟨2, da, dn⟩ ∧ Dx.n ⟨2, da, dn⟩ ≤ 9) := u2 rfl
            have ha1 := ha.1
            have ha2 := ha.2
            have hn1 := hn.1
            have hn2 := hn.2
            have hs : stepD r ⟨2, da, dn⟩ = { r with p := setP r.p da.toNat (getP r.p dn.toNat) } := rfl
            rw [hs] at hpq
            repeat' (first | (apply X.loE; (· exact aR); (· first | (exact .eff (.idxS rfl rfl rfl encFl_len hx)) | (exact .eff (.idxS rfl rfl rfl encDx_len hd)) | (exact .eff (.loadO rfl rfl (readPo hn))))) | refine X.loc ?_ | (apply X.stBE; (· exact aS); (· exact (setPo ha)); (· exact aE)) | refine nx ?_ | (refine WP.condBit rfl ?_ ?_) | (refine WP.cond rfl ?_ ?_ <;> intro hcond) | (apply X.gsE; (· exact aR); (· exact aV); (· exact aW); (· intro hc; first | (exact .eff (.idxS rfl rfl rfl encFl_len hx)) | (exact .eff (.idxS rfl rfl rfl encDx_len hd)) | (exact .eff (.loadO rfl rfl (readPo hn)))); (· exact aR)) | refine rb ?_ | refine nd ?_ | refine dk ?_ | fail)
            · refine ⟨(j + 1, { r with p := setP r.p da.toNat (getP r.p dn.toNat) }), hpq, by dsimp only; omega, ?_⟩
              refine St.to [] [] rfl rfl ?_ ?_ <;> (repeat' (first | exact tA | refine t1 ?_ | exact tB | refine t2 ?_ ?_ | refine t3 ?_ | refine t4 ?_ ?_ | refine .ofEq ?_ | refine OB.To.cut rfl rfl ?_ ?_ ?_ ?_ | refine OB.To.box rfl rfl ?_ | refine ⟨⟨_, rfl, ?_⟩, ?_⟩ | refine ⟨?_, ?_⟩ | fail))
            · exfalso
              simp at hcond
              omega
          · have ha : 0 ≤ Dx.a ⟨3, da, dn⟩ ∧ Dx.a ⟨3, da, dn⟩ ≤ 9 := u3 rfl
            have ha1 := ha.1
            have ha2 := ha.2
            have hww := word_iff.1 (hrw (Dx.a ⟨3, da, dn⟩).toNat (by omega))
            have hs : stepD r ⟨3, da, dn⟩ = { r with p := setP r.p da.toNat (if 0 > getP r.p da.toNat - 1 then 0 else getP r.p da.toNat - 1) } := rfl
            rw [hs] at hpq
            repeat' (first | (apply X.loE; (· exact aR); (· first | (exact .eff (.idxS rfl rfl rfl encFl_len hx)) | (exact .eff (.idxS rfl rfl rfl encDx_len hd)) | (exact .eff (.loadO rfl rfl (readPo ha))))) | refine X.loc ?_ | (apply X.stBE; (· exact aS); (· exact (setPo ha)); (· exact aE)) | refine nx ?_ | (refine WP.condBit rfl ?_ ?_) | (refine WP.cond rfl ?_ ?_ <;> intro hcond) | (apply X.gsE; (· exact aR); (· exact aV); (· exact aW); (· intro hc; first | (exact .eff (.idxS rfl rfl rfl encFl_len hx)) | (exact .eff (.idxS rfl rfl rfl encDx_len hd)) | (exact .eff (.loadO rfl rfl (readPo ha)))); (· exact aR)) | refine rb ?_ | refine nd ?_ | refine dk ?_ | fail)
            · have hpos : getP r.p da.toNat > 0 := by simpa using hcond
              rw [if_neg (by omega)] at hpq
              refine ⟨(j + 1, { r with p := setP r.p da.toNat (getP r.p da.toNat - 1) }), hpq, by dsimp only; omega, ?_⟩
              refine St.to [] [] rfl rfl ?_ ?_ <;> (repeat' (first | exact tA | refine t1 ?_ | exact tB | refine t2 ?_ ?_ | refine t3 ?_ | refine t4 ?_ ?_ | refine .ofEq ?_ | refine OB.To.cut rfl rfl ?_ ?_ ?_ ?_ | refine OB.To.box rfl rfl ?_ | refine ⟨⟨_, rfl, ?_⟩, ?_⟩ | refine ⟨?_, ?_⟩ | fail))
            · have h0 : getP r.p da.toNat = 0 := by
                have : ¬ getP r.p da.toNat > 0 := by simpa using hcond
                have hww' : 0 ≤ getP r.p da.toNat := hww.1
                omega
              have hsame : setP r.p da.toNat (if 0 > getP r.p da.toNat - 1 then 0 else getP r.p da.toNat - 1) = r.p := by
                rw [if_pos (by omega)]
                exact setP_same (by have : 0 ≤ da ∧ da ≤ 9 := ha; omega) h0
              rw [hsame] at hpq
              refine ⟨(j + 1, r), hpq, by dsimp only; omega, ?_⟩
              refine St.to [] [] rfl rfl ?_ ?_ <;> (repeat' (first | exact tA | refine t1 ?_ | exact tB | refine t2 ?_ ?_ | refine t3 ?_ | refine t4 ?_ ?_ | refine .ofEq ?_ | refine OB.To.cut rfl rfl ?_ ?_ ?_ ?_ | refine OB.To.box rfl rfl ?_ | refine ⟨⟨_, rfl, ?_⟩, ?_⟩ | refine ⟨?_, ?_⟩ | fail))
            · exfalso
              simp at hcond
              omega
          · have h4 := u4 rfl
            have h4' : tb8 dn = dn := tb8_nn (by omega)
            have hs : stepD r ⟨4, da, dn⟩ = { r with table := dn } := rfl
            rw [hs] at hpq
            repeat' (first | (apply X.loE; (· exact aR); (· first | (exact .eff (.idxS rfl rfl rfl encFl_len hx)) | (exact .eff (.idxS rfl rfl rfl encDx_len hd)))) | refine X.loc ?_ | refine nx ?_ | (refine WP.condBit rfl ?_ ?_) | (refine WP.cond rfl ?_ ?_ <;> intro hcond) | (apply X.gsE; (· exact aR); (· exact aV); (· exact aW); (· intro hc; first | (exact .eff (.idxS rfl rfl rfl encFl_len hx)) | (exact .eff (.idxS rfl rfl rfl encDx_len hd))); (· exact aR)) | refine rb ?_ | refine nd ?_ | refine dk ?_ | fail)
            · refine ⟨(j + 1, { r with table := dn }), hpq, by dsimp only; omega, ?_⟩
              refine St.to [] [] rfl rfl ?_ ?_ <;> (repeat' (first | exact tA | refine t1 ?_ | exact tB | refine t2 ?_ ?_ | refine t3 ?_ | refine t4 ?_ ?_ | refine .ofEq ?_ | refine OB.To.cut rfl rfl ?_ ?_ ?_ ?_ | refine OB.To.box rfl rfl ?_ | refine ⟨⟨_, rfl, ?_⟩, ?_⟩ | refine ⟨?_, ?_⟩ | fail))
              all_goals rw [h4']
            · exfalso
              simp at hcond
              omega
          · skip
            have hs : stepD r ⟨5, da, dn⟩ = { r with out := r.out ++ [⟨5, dn, r.p⟩] } := rfl
            rw [hs] at hpq
            repeat' (first | (apply X.loE; (· exact aR); (· first | (exact .eff (.idxS rfl rfl rfl encFl_len hx)) | (exact .eff (.idxS rfl rfl rfl encDx_len hd)))) | refine X.loc ?_ | refine nx ?_ | (refine WP.condBit rfl ?_ ?_) | (refine WP.cond rfl ?_ ?_ <;> intro hcond) | (apply X.gsE; (· exact aR); (· exact aV); (· exact aW); (· intro hc; first | (exact .eff (.idxS rfl rfl rfl encFl_len hx)) | (exact .eff (.idxS rfl rfl rfl encDx_len hd))); (· exact aR)) | refine rb ?_ | refine nd ?_ | refine dk ?_ | fail)
            · refine ⟨(j + 1, { r with out := r.out ++ [⟨5, dn, r.p⟩] }), hpq, by dsimp only; omega, ?_⟩
              refine St.to [(900, .id 168)] [] rfl rfl ?_ ?_ <;> (repeat' (first | exact tA | refine t1 ?_ | exact tB | refine t2 ?_ ?_ | refine t3 ?_ | refine t4 ?_ ?_ | refine .ofEq ?_ | refine OB.To.cut rfl rfl ?_ ?_ ?_ ?_ | refine OB.To.box rfl rfl ?_ | refine ⟨⟨_, rfl, ?_⟩, ?_⟩ | refine ⟨?_, ?_⟩ | fail))
              all_goals first | (simp; done) | (simp only [List.flatMap_append, List.map_append]; rfl)
            · exfalso
              simp at hcond
              omega
          · skip
            have hs : stepD r ⟨6, da, dn⟩ = { r with out := r.out ++ [⟨6, dn, r.p⟩] } := rfl
            rw [hs] at hpq
            repeat' (first | (apply X.loE; (· exact aR); (· first | (exact .eff (.idxS rfl rfl rfl encFl_len hx)) | (exact .eff (.idxS rfl rfl rfl encDx_len hd)))) | refine X.loc ?_ | refine nx ?_ | (refine WP.condBit rfl ?_ ?_) | (refine WP.cond rfl ?_ ?_ <;> intro hcond) | (apply X.gsE; (· exact aR); (· exact aV); (· exact aW); (· intro hc; first | (exact .eff (.idxS rfl rfl rfl encFl_len hx)) | (exact .eff (.idxS rfl rfl rfl encDx_len hd))); (· exact aR)) | refine rb ?_ | refine nd ?_ | refine dk ?_ | fail)
            · refine ⟨(j + 1, { r with out := r.out ++ [⟨6, dn, r.p⟩] }), hpq, by dsimp only; omega, ?_⟩
              refine St.to [(900, .id 168)] [] rfl rfl ?_ ?_ <;> (repeat' (first | exact tA | refine t1 ?_ | exact tB | refine t2 ?_ ?_ | refine t3 ?_ | refine t4 ?_ ?_ | refine .ofEq ?_ | refine OB.To.cut rfl rfl ?_ ?_ ?_ ?_ | refine OB.To.box rfl rfl ?_ | refine ⟨⟨_, rfl, ?_⟩, ?_⟩ | refine ⟨?_, ?_⟩ | fail))
              all_goals first | (simp; done) | (simp only [List.flatMap_append, List.map_append]; rfl)
            · exfalso
              simp at hcond
              omega
end Go.Proofs.Ytmidechdlbcepaa

namespace Go.Proofs.Ytmidechdlbcepaa
open Go.ChangeShapes Go.WideShapes Go.ChangeAt Go.RowKit Go.Deep
set_option maxRecDepth 100000

section
variable {H : Type} {enc : TypeId × Value → H} {P : Program} {w : World} {base : Nat} {spare : Nat → Bool} {held : Bool} {Cl : TypeId → DataW H → Prop}
theorem sw_rep {cs : List Value} (h : AllOk enc P w base spare held Cl swLeaves cs) : ∃ x : Sw, x.Ok ∧ RepF w (encSw x) cs := by
  obtain ⟨x, rfl, hx⟩ := sw_of_ok h
  exact ⟨x, hx, fun _ => ⟨rfl, rfl, rfl, trivial⟩⟩
theorem po_rep {cs : List Value} (h : AllOk enc P w base spare held Cl poLeaves cs) : ∃ x : Po, x.Ok ∧ RepF w (encPo x) cs := by
  obtain ⟨x, rfl, hx⟩ := po_of_ok h
  exact ⟨x, hx, fun _ => ⟨rfl, rfl, rfl, rfl, rfl, trivial⟩⟩
theorem ac_rep {cs : List Value} (h : AllOk enc P w base spare held Cl acLeaves cs) : ∃ x : Ac, x.Ok ∧ RepF w (encAc x) cs := by
  obtain ⟨x, rfl, hx⟩ := ac_of_ok h
  exact ⟨x, hx, fun _ => ⟨rfl, rfl, rfl, rfl, rfl, rfl, rfl, rfl, rfl, trivial⟩⟩
theorem small_of {c : Cf} (h0 : c.ss.length * 24 ≤ reachBytes) (h1 : c.ps.length * 40 ≤ reachBytes) (h2 : c.acs.length * 72 ≤ reachBytes) : c.Small := by
  have h0 := reach_le h0
  have h1 := reach_le h1
  have h2 := reach_le h2
  exact ⟨by omega, by omega, by omega⟩
theorem open_cf {r : Reach} {b0 : Nat} {v : Value} {d : DataW H} {p : List MemPlace} (hv : Value.okWide Try.prog w r b0 26 v) (h : DataW.Trod enc Try.prog w base spare held 26 v d p) (hs : SizedCl Try.prog 26 d) :
    ∃ c : Cf, c.Ok ∧ c.Small ∧ c.ss.length * 24 ≤ reachBytes ∧ c.ps.length * 40 ≤ reachBytes ∧ c.acs.length * 72 ≤ reachBytes ∧ ∃ cs : List Value, v = .agg cs.toArray ∧ RepF w (encCf c) cs := by
  obtain ⟨cs, rfl, hcs⟩ := open_struct_c closed_sized Try.underlying26 conf_leaves hv h hs
  match cs, hcs with
  | [v0, v1, v2], ⟨l0, l1, l2, _⟩ =>
    obtain ⟨ss, a1, a2, a3⟩ := open_sl Try.underlying22 sw_leaves sw_cellsOf rfl (by omega) sw_bytes (fun _ h => sw_rep h) l0
    obtain ⟨ps, b1, b2, b3⟩ := open_sl Try.underlying23 po_leaves po_cellsOf rfl (by omega) po_bytes (fun _ h => po_rep h) l1
    obtain ⟨acs, c1, c2, c3⟩ := open_sl Try.underlying24 ac_leaves ac_cellsOf rfl (by omega) ac_bytes (fun _ h => ac_rep h) l2
    exact ⟨⟨ss, ps, acs⟩, ⟨a1, b1, c1⟩, small_of a2 b2 c2, a2, b2, c2, _, rfl, repF_cons a3 (repF_cons b3 (repF_cons c3 repF_nil))⟩
theorem rep_agg {σ : Nat → Value} {fs : List FV} {cs : List Value} (h : RepF w fs cs) : (AV.agg (fs.map .fv)).Rep σ (fun b => b < w.heap.size) w (.agg cs.toArray) := ⟨_, rfl, by simpa using h σ⟩
end
end Go.Proofs.Ytmidechdlbcepaa
