import Derived.Test.YtmidechdlbcepaaPack23
import Derived.Test.YtmidechdlbcepaaPack21
import Derived.Test.YtmidechdlbcepaaPack22
import Derived.Test.YtmidechdlbcepaaPack10
set_option linter.unusedSimpArgs false
set_option linter.unusedVariables false
namespace Go.Proofs.Ytmidechdlbcepaa
open Go.RowKit
set_option maxRecDepth 100000

set_option maxHeartbeats 1000000 in
theorem indexSw_T (l : List Sw) (f : FuncId) (caps : List AV) (p : Sw → Bool) (hl : l.length < 9223372036854775807) (hp : ∀ x ∈ l, Fun Try.prog f (.agg ((encSw x).map .fv) :: caps) (.fv (.bool (p x)))) :
    Fun Try.prog 71 [.fv (slOf encSw l), .fn f caps] (.fv (.int .i64 (idxB p l))) := by
  refine Fun.body tbl_ok Try.func71 rfl (by kernel_rfl) rfl rfl rfl ?_
  repeat' (first | refine X.loc ?_ | refine nx ?_ | (refine WP.condBit rfl ?_ ?_) | (refine WP.cond rfl ?_ ?_ <;> intro hcond) | refine rb ?_ | refine nd ?_ | refine dk ?_ | fail)
  refine WP.loop (ι := Nat) (fun k => ⟨[(0, .fv (slOf encSw l)), (1, .fn f caps), (7, .fv (.int .i64 l.length)), (8, .fv (.int .i64 k))], []⟩) (fun k => k ≤ l.length ∧ ∀ x ∈ l.take k, p x = false) (fun k => l.length - k) 0 ⟨by omega, by simp⟩ ?_ ?_
  · skip
    refine St.le_of ?_ ?_ <;> (repeat' (first | exact trivial | refine ⟨⟨_, rfl, .refl _⟩, ?_⟩ | refine ⟨⟨_, rfl, .any _⟩, ?_⟩ | refine ⟨⟨_, rfl, .of_eq ?_⟩, ?_⟩ | refine ⟨⟨_, rfl, fun _ _ _ _ h => h⟩, ?_⟩ | fail))
  rintro k ⟨hk, hd⟩
  try dsimp only
  by_cases hlt : k < l.length
  case neg =>
    repeat' (first | refine X.loc ?_ | refine nx ?_ | (refine WP.condBit rfl ?_ ?_) | (refine WP.cond rfl ?_ ?_ <;> intro hcond) | refine rb ?_ | refine nd ?_ | refine dk ?_ | fail)
    · exfalso
      simp at hcond
      omega
    · refine .f1 (.inl rfl) rfl ?_
      rw [idxB_none p l (by rw [List.take_of_length_le (by omega)] at hd; exact hd)]
  case pos =>
    obtain ⟨x, hx⟩ : ∃ x, l[k]? = some x := ⟨_, List.getElem?_eq_getElem hlt⟩
    have hf := hp x (List.mem_of_getElem? hx)
    repeat' (first | (apply X.loE; (· exact aR); (· first | (exact .eff (.idxS rfl rfl rfl encSw_len hx)) | exact .callL rfl rfl rfl (hf) rfl | exact bl (hf))) | refine X.loc ?_ | refine nx ?_ | (refine WP.condBit rfl ?_ ?_) | (refine WP.cond rfl ?_ ?_ <;> intro hcond) | (apply X.gsE; (· exact aR); (· exact aV); (· exact aW); (· intro hc; first | (exact .eff (.idxS rfl rfl rfl encSw_len hx)) | exact .callG rfl rfl rfl (hf) rfl | exact bg (hf)); (· exact aR)) | refine rb ?_ | refine nd ?_ | refine dk ?_ | fail)
    · refine .f1 (.inl rfl) rfl ?_
      rw [idxB_take p l k hd (fun y hy => by rw [hx] at hy; obtain rfl := Option.some.inj hy; exact hcond) hlt]
    · refine ⟨k + 1, ⟨by omega, ?_⟩, by omega, ?_⟩
      · rw [List.take_add_one, hx]
        intro y hy
        simp at hy
        rcases hy with hy | rfl
        · exact hd y hy
        · exact hcond
      · skip
        refine St.le_of ?_ ?_ <;> (repeat' (first | exact trivial | refine ⟨⟨_, rfl, .refl _⟩, ?_⟩ | refine ⟨⟨_, rfl, .any _⟩, ?_⟩ | refine ⟨⟨_, rfl, .of_eq ?_⟩, ?_⟩ | refine ⟨⟨_, rfl, fun _ _ _ _ h => h⟩, ?_⟩ | fail))
    · exfalso
      simp at hcond
      omega
set_option maxHeartbeats 1000000 in
theorem indexPo_T (l : List Po) (f : FuncId) (caps : List AV) (p : Po → Bool) (hl : l.length < 9223372036854775807) (hp : ∀ x ∈ l, Fun Try.prog f (.agg ((encPo x).map .fv) :: caps) (.fv (.bool (p x)))) :
    Fun Try.prog 103 [.fv (slOf encPo l), .fn f caps] (.fv (.int .i64 (idxB p l))) := by
  refine Fun.body tbl_ok Try.func103 rfl (by kernel_rfl) rfl rfl rfl ?_
  repeat' (first | refine X.loc ?_ | refine nx ?_ | (refine WP.condBit rfl ?_ ?_) | (refine WP.cond rfl ?_ ?_ <;> intro hcond) | refine rb ?_ | refine nd ?_ | refine dk ?_ | fail)
  refine WP.loop (ι := Nat) (fun k => ⟨[(0, .fv (slOf encPo l)), (1, .fn f caps), (7, .fv (.int .i64 l.length)), (8, .fv (.int .i64 k))], []⟩) (fun k => k ≤ l.length ∧ ∀ x ∈ l.take k, p x = false) (fun k => l.length - k) 0 ⟨by omega, by simp⟩ ?_ ?_
  · skip
    refine St.le_of ?_ ?_ <;> (repeat' (first | exact trivial | refine ⟨⟨_, rfl, .refl _⟩, ?_⟩ | refine ⟨⟨_, rfl, .any _⟩, ?_⟩ | refine ⟨⟨_, rfl, .of_eq ?_⟩, ?_⟩ | refine ⟨⟨_, rfl, fun _ _ _ _ h => h⟩, ?_⟩ | fail))
  rintro k ⟨hk, hd⟩
  try dsimp only
  by_cases hlt : k < l.length
  case neg =>
    repeat' (first | refine X.loc ?_ | refine nx ?_ | (refine WP.condBit rfl ?_ ?_) | (refine WP.cond rfl ?_ ?_ <;> intro hcond) | refine rb ?_ | refine nd ?_ | refine dk ?_ | fail)
    · exfalso
      simp at hcond
      omega
    · refine .f1 (.inl rfl) rfl ?_
      rw [idxB_none p l (by rw [List.take_of_length_le (by omega)] at hd; exact hd)]
  case pos =>
    obtain ⟨x, hx⟩ : ∃ x, l[k]? = some x := ⟨_, List.getElem?_eq_getElem hlt⟩
    have hf := hp x (List.mem_of_getElem? hx)
    repeat' (first | (apply X.loE; (· exact aR); (· first | (exact .eff (.idxS rfl rfl rfl encPo_len hx)) | exact .callL rfl rfl rfl (hf) rfl | exact bl (hf))) | refine X.loc ?_ | refine nx ?_ | (refine WP.condBit rfl ?_ ?_) | (refine WP.cond rfl ?_ ?_ <;> intro hcond) | (apply X.gsE; (· exact aR); (· exact aV); (· exact aW); (· intro hc; first | (exact .eff (.idxS rfl rfl rfl encPo_len hx)) | exact .callG rfl rfl rfl (hf) rfl | exact bg (hf)); (· exact aR)) | refine rb ?_ | refine nd ?_ | refine dk ?_ | fail)
    · refine .f1 (.inl rfl) rfl ?_
      rw [idxB_take p l k hd (fun y hy => by rw [hx] at hy; obtain rfl := Option.some.inj hy; exact hcond) hlt]
    · refine ⟨k + 1, ⟨by omega, ?_⟩, by omega, ?_⟩
      · rw [List.take_add_one, hx]
        intro y hy
        simp at hy
        rcases hy with hy | rfl
        · exact hd y hy
        · exact hcond
      · skip
        refine St.le_of ?_ ?_ <;> (repeat' (first | exact trivial | refine ⟨⟨_, rfl, .refl _⟩, ?_⟩ | refine ⟨⟨_, rfl, .any _⟩, ?_⟩ | refine ⟨⟨_, rfl, .of_eq ?_⟩, ?_⟩ | refine ⟨⟨_, rfl, fun _ _ _ _ h => h⟩, ?_⟩ | fail))
    · exfalso
      simp at hcond
      omega
theorem containsPo_T (l : List Po) (f : FuncId) (caps : List AV) (p : Po → Bool) (hl : l.length < 9223372036854775807) (hp : ∀ x ∈ l, Fun Try.prog f (.agg ((encPo x).map .fv) :: caps) (.fv (.bool (p x)))) :
    Fun Try.prog 93 [.fv (slOf encPo l), .fn f caps] (.fv (.bool (l.any p))) := by
  refine Fun.body tbl_ok Try.func93 rfl (by kernel_rfl) rfl rfl rfl ?_
  repeat' (first | (apply X.loE; (· exact aR); (· first | exact .callL rfl rfl rfl (indexPo_T l f caps p hl hp) rfl | exact bl (indexPo_T l f caps p hl hp))) | refine X.loc ?_ | refine nx ?_ | (refine WP.condBit rfl ?_ ?_) | (refine WP.cond rfl ?_ ?_ <;> intro hcond) | (apply X.gsE; (· exact aR); (· exact aV); (· exact aW); (· intro hc; first | exact .callG rfl rfl rfl (indexPo_T l f caps p hl hp) rfl | exact bg (indexPo_T l f caps p hl hp)); (· exact aR)) | refine rb ?_ | refine nd ?_ | refine dk ?_ | fail)
  refine .f1 (.inl rfl) rfl ?_
  have := idxB_any p l
  cases h : l.any p
  · have := this.2 h
    simp
    omega
  · have h2 : ¬ idxB p l < 0 := fun h3 => by rw [this.1 h3] at h; cases h
    simp
    omega
theorem place1_T (s : Sw) (id : Int) : Fun Try.prog 116 [.agg ((encSw s).map .fv), .fptr [.int .i64 id]] (.fv (.bool (s.id == id))) := by
  refine Fun.body tbl_ok Try.func116 rfl (by kernel_rfl) rfl rfl rfl ?_
  repeat' (first | refine X.loc ?_ | refine nx ?_ | (refine WP.condBit rfl ?_ ?_) | (refine WP.cond rfl ?_ ?_ <;> intro hcond) | refine rb ?_ | refine nd ?_ | refine dk ?_ | fail)
  exact .f1 (.inl rfl) rfl rfl
theorem place_T (c : Cf) (id : Int) (hl : c.ss.length < 9223372036854775807) : Fun Try.prog 91 [.agg ((encCf c).map .fv), .fv (.int .i64 id)] (.fv (.int .i64 (idxB (fun s => s.id == id) c.ss))) := by
  refine Fun.body tbl_ok Try.func91 rfl (by kernel_rfl) rfl rfl rfl ?_
  repeat' (first | (apply X.loE; (· exact aR); (· first | exact .callL rfl rfl rfl (indexSw_T c.ss _ [.fptr [.int .i64 id]] (fun s => s.id == id) hl (fun x _ => place1_T x id)) rfl | exact bl (indexSw_T c.ss _ [.fptr [.int .i64 id]] (fun s => s.id == id) hl (fun x _ => place1_T x id)))) | refine X.loc ?_ | refine nx ?_ | (refine WP.condBit rfl ?_ ?_) | (refine WP.cond rfl ?_ ?_ <;> intro hcond) | (apply X.gsE; (· exact aR); (· exact aV); (· exact aW); (· intro hc; first | exact .callG rfl rfl rfl (indexSw_T c.ss _ [.fptr [.int .i64 id]] (fun s => s.id == id) hl (fun x _ => place1_T x id)) rfl | exact bg (indexSw_T c.ss _ [.fptr [.int .i64 id]] (fun s => s.id == id) hl (fun x _ => place1_T x id))); (· exact aR)) | refine rb ?_ | refine nd ?_ | refine dk ?_ | fail)
  exact .f1 (.inl rfl) rfl rfl
theorem tenantAt_at {ss : List Sw} {id : Int} {k : Nat} (h : idxB (fun s => s.id == id) ss = (k : Int)) : ∃ x, ss[k]? = some x ∧ tenantAt ss id = x.tenant := by
  obtain ⟨x, h1, _, h3⟩ := idxB_at _ _ _ h
  exact ⟨x, h1, by unfold tenantAt; rw [h3]⟩
theorem idxB_some {ss : List Sw} {id : Int} (h : ss.any (fun x => x.id == id) = true) : ∃ k : Nat, idxB (fun s => s.id == id) ss = (k : Int) := by
  have h1 := idxB_any (fun s : Sw => s.id == id) ss
  have h2 : ¬ idxB (fun s : Sw => s.id == id) ss < 0 := fun h3 => by rw [h1.1 h3] at h; cases h
  exact ⟨(idxB (fun s : Sw => s.id == id) ss).toNat, by omega⟩
theorem taken1_T (c : Cf) (p : Po) (tenant ip : Int) (hl : c.ss.length < 9223372036854775807) (hw : c.ss.any (fun x => x.id == p.sw) = true) : Fun Try.prog 117 [.agg ((encPo p).map .fv), .fptr [.int .i64 ip], .fptr (encCf c), .fptr [.int .i64 tenant]] (.fv (.bool (p.ip == ip && tenantAt c.ss p.sw == tenant))) := by
  obtain ⟨k, hk⟩ := idxB_some hw
  obtain ⟨x, hx, ht⟩ := tenantAt_at hk
  have hpl := place_T c p.sw hl
  rw [hk] at hpl
  refine Fun.body tbl_ok Try.func117 rfl (by kernel_rfl) rfl rfl rfl ?_
  repeat' (first | (apply X.loE; (· exact aR); (· first | (exact .eff (.idxS rfl rfl rfl encSw_len hx)) | exact .callL rfl rfl rfl (hpl) rfl | exact bl (hpl))) | refine X.loc ?_ | refine nx ?_ | (refine WP.condBit rfl ?_ ?_) | (refine WP.cond rfl ?_ ?_ <;> intro hcond) | (apply X.gsE; (· exact aR); (· exact aV); (· exact aW); (· intro hc; first | (exact .eff (.idxS rfl rfl rfl encSw_len hx)) | exact .callG rfl rfl rfl (hpl) rfl | exact bg (hpl)); (· exact aR)) | refine rb ?_ | refine nd ?_ | refine dk ?_ | fail)
  all_goals (refine .f1 (.inl rfl) rfl ?_; rw [ht])
end Go.Proofs.Ytmidechdlbcepaa

namespace Go.Proofs.Ytmidechdlbcepaa
open Go.RowKit
set_option maxRecDepth 100000

theorem flFault_ok {f : Fl} (h1 : f.ms.length ≤ 12) (h2 : f.ds.length ≤ 100) (h3 : 0 ≤ f.table ∧ f.table ≤ 7) (h4 : 0 ≤ f.prio ∧ f.prio ≤ 2000) (h5 : f.ms.all mxOk = true) (h6 : dxOk f.table f.ds = true) : flFault f = 0 := by
  unfold flFault
  rw [if_neg (by omega), if_neg (by rw [inR_iff.2 h3, inR_iff.2 h4]; simp), if_neg (by rw [h5]; simp), if_neg (by rw [h6]; simp)]
theorem mx_w {i v : Int} (hi : 0 ≤ i ∧ i ≤ 9) (hv : 0 ≤ v ∧ v ≤ 65535) : mxOk ⟨i, 65535, v⟩ = true := by
  have h1 : word v = true := decide_eq_true hv
  unfold mxOk
  rw [show inR i 0 9 = true from inR_iff.2 hi, h1, maskd_all h1, decide_eq_true rfl]
  rfl
theorem maskN_le (b : Int) : 0 ≤ maskN b ∧ maskN b ≤ 65535 := by
  unfold maskN
  have := Nat.two_pow_pos (16 - b.toNat)
  omega
theorem mx_r {i v b : Int} (hi : 0 ≤ i ∧ i ≤ 9) (hv : 0 ≤ v ∧ v ≤ 65535) (hb : 0 ≤ b ∧ b ≤ 16) (hm : v % unitOf b = 0) : mxOk ⟨i, maskN b, v⟩ = true := by
  have h1 : word v = true := decide_eq_true hv
  have h2 := mask_unit h1 hv hb hm
  rw [show (v / unitOf b == v / unitOf b) = true from beq_self_eq_true _, beq_iff_eq] at h2
  unfold mxOk
  rw [show inR i 0 9 = true from inR_iff.2 hi, show word (maskN b) = true from decide_eq_true (maskN_le b), h1, h2, decide_eq_true rfl]
  rfl
theorem dx_go {t n : Int} (h : t + 1 ≤ n ∧ n ≤ 7) : dxMay ⟨4, 0, n⟩ t true = true := by
  unfold dxMay
  simp [inR, h]
theorem dx_put {t a n : Int} {b : Bool} (ha : 0 ≤ a ∧ a ≤ 9) (hn : 0 ≤ n ∧ n ≤ 65535) : dxMay ⟨1, a, n⟩ t b = true := by
  unfold dxMay
  simp [inR, word, ha, hn]
theorem dx_copy {t a n : Int} {b : Bool} (ha : 0 ≤ a ∧ a ≤ 9) (hn : 0 ≤ n ∧ n ≤ 9) : dxMay ⟨2, a, n⟩ t b = true := by
  unfold dxMay
  simp [inR, ha, hn]
theorem dx_less {t a : Int} {b : Bool} (ha : 0 ≤ a ∧ a ≤ 9) : dxMay ⟨3, a, 0⟩ t b = true := by
  unfold dxMay
  simp [inR, ha]
theorem dx_out {t n : Int} {b : Bool} (hn : 0 ≤ n ∧ n ≤ 65535) : dxMay ⟨5, 0, n⟩ t b = true := by
  unfold dxMay
  simp [word, hn]
theorem dx_tunnel {t n : Int} {b : Bool} (hn : 0 ≤ n ∧ n ≤ 5) : dxMay ⟨6, 0, n⟩ t b = true := by
  unfold dxMay
  simp [inR, hn]
theorem dxOk_cons {t : Int} {d : Dx} {l : List Dx} (h1 : dxMay d t l.isEmpty = true) (h2 : dxOk t l = true) : dxOk t (d :: l) = true := by
  rw [dxOk, h1, h2]
  rfl
section
theorem enters_ok {c : Cf} (hc : CfOk c) {ch : Int} (hch : 0 ≤ ch ∧ ch ≤ 5) {g : Fl} (h : g ∈ entersF (hereF c ch)) : flFault g = 0 := by
  rcases enters_mem.1 h with rfl | ⟨q, ⟨hq, e⟩, rfl | rfl⟩
  · decide
  all_goals
    have h1 := (hc.pg q hq).1
    have h2 := (hc.swIn hq)
    have h3 := (hc.sr _ h2.1).1
    unfold PoR at h1
    refine flFault_ok (by simp [enterA, enterB_, enterM]) (by simp [enterA, enterB_]) ⟨of_decide_eq_true rfl, of_decide_eq_true rfl⟩ ⟨of_decide_eq_true rfl, of_decide_eq_true rfl⟩ ?_ ?_
  · show List.all [_, _, _, _] _ = true
    simp only [List.all_cons, List.all_nil, mx_w (i := 0) (v := q.id) (by omega) (by omega), mx_w (i := 2) (v := q.mac) (by omega) (by omega), mx_w (i := 4) (v := q.ip) (by omega) (by omega), mx_w (i := 3) (v := 3) (by omega) (by omega), Bool.and_true]
  · exact dxOk_cons (dx_put (by omega) (by omega)) (dxOk_cons (dx_go (by show (0 : Int) + 1 ≤ 1 ∧ _; omega)) rfl)
  · show List.all [_, _, _, _] _ = true
    simp only [List.all_cons, List.all_nil, mx_w (i := 0) (v := q.id) (by omega) (by omega), mx_w (i := 2) (v := q.mac) (by omega) (by omega), mx_w (i := 4) (v := q.ip) (by omega) (by omega), mx_w (i := 3) (v := 1) (by omega) (by omega), Bool.and_true]
  · exact dxOk_cons (dx_put (by omega) (by omega)) (dxOk_cons (dx_go (by show (0 : Int) + 1 ≤ 2 ∧ _; omega)) rfl)
theorem rules_ok {c : Cf} (hc : CfOk c) {t next : Int} {inn : Bool} (ht : 0 ≤ t ∧ t + 1 ≤ next ∧ next ≤ 7) {g : Fl} (h : g ∈ rulesF c t next inn) : flFault g = 0 := by
  unfold rulesF at h
  rcases List.mem_append.1 h with h | h
  · obtain ⟨h1, h2, h3, a, h4, h5⟩ := rulesL_mem h
    have h6 := (List.mem_filter.1 ((sortA_stab _).mem.1 h4)).1
    obtain ⟨⟨⟨_, b1, b2, b3, b4, b5⟩, b6, b7⟩, hsw⟩ := hc.ar a h6
    obtain ⟨s, hs, hsi⟩ := hsw
    have h7 := (hc.sr s hs).1
    have hlen : (sortA (ofKind c inn)).length ≤ 40 := by
      rw [sortA, (List.mergeSort_perm _ geA).length_eq]
      exact Nat.le_trans (List.length_filter_le _ _) hc.al
    rw [h5]
    have m1 := mx_w (i := 8) (v := a.sw) (by omega) (by omega)
    have m2 := mx_r (i := 4) (by omega) b1 b3 b6
    have m3 := mx_r (i := 5) (by omega) b2 b4 b7
    refine flFault_ok ?_ ?_ ?_ ?_ ?_ ?_
    · show (ruleM a).length ≤ 12
      unfold ruleM
      split <;> simp
    · show (if a.deny = true then ([] : List Dx) else [⟨4, 0, next⟩]).length ≤ 100
      split <;> simp
    · show 0 ≤ t ∧ t ≤ 7
      omega
    · show 0 ≤ g.prio ∧ g.prio ≤ 2000
      omega
    · show (ruleM a).all mxOk = true
      unfold ruleM
      by_cases hp : 0 ≤ a.port
      · rw [if_pos hp]
        show List.all [_, _, _, _] _ = true
        simp only [List.all_cons, List.all_nil, m1, m2, m3, mx_w (i := 7) (v := a.port) (by omega) (by omega), Bool.and_true]
      · rw [if_neg hp]
        show List.all [_, _, _] _ = true
        simp only [List.all_cons, List.all_nil, m1, m2, m3, Bool.and_true]
    · show dxOk t (if a.deny = true then [] else [⟨4, 0, next⟩]) = true
      split
      · rfl
      · exact dxOk_cons (dx_go ⟨ht.2.1, ht.2.2⟩) rfl
  · obtain rfl := List.mem_singleton.1 h
    exact flFault_ok (by simp [restF]) (by simp [restF]) (by show 0 ≤ t ∧ t ≤ 7; omega) ⟨of_decide_eq_true rfl, of_decide_eq_true rfl⟩ rfl (dxOk_cons (dx_go ⟨ht.2.1, ht.2.2⟩) rfl)
theorem answers_ok {c : Cf} (hc : CfOk c) {ch : Int} (hch : 0 ≤ ch ∧ ch ≤ 5) {g : Fl} (h : g ∈ answersF c (hereF c ch)) : flFault g = 0 := by
  have key : ∀ net ip mac : Int, 0 ≤ net ∧ net ≤ 65535 → 0 ≤ ip ∧ ip ≤ 65535 → 0 ≤ mac ∧ mac ≤ 65535 → flFault (tellF net ip mac) = 0 := fun net ip mac h1 h2 h3 => by
    refine flFault_ok (by simp [tellF]) (by simp [tellF]) ⟨of_decide_eq_true rfl, of_decide_eq_true rfl⟩ ⟨of_decide_eq_true rfl, of_decide_eq_true rfl⟩ ?_ ?_
    · show List.all [_, _] _ = true
      simp only [List.all_cons, List.all_nil, mx_w (i := 8) (v := net) (by omega) h1, mx_w (i := 5) (v := ip) (by omega) h2, Bool.and_true]
    · exact dxOk_cons (dx_copy (by omega) (by omega)) (dxOk_cons (dx_put (by omega) h3) (dxOk_cons (dx_copy (by omega) (by omega)) (dxOk_cons (dx_put (by omega) h2) (dxOk_cons (dx_put (by omega) (by omega)) (dxOk_cons (dx_copy (by omega) (by omega)) (dxOk_cons (dx_go (by show (2 : Int) + 1 ≤ 5 ∧ _; omega)) rfl))))))
  rcases answers_mem.1 h with ⟨q, hq, rfl⟩ | ⟨q, hq, rfl⟩ | ⟨s, hs, _, rfl⟩
  · have h1 := (hc.pg q hq).1
    have h3 := (hc.sr _ (hc.swIn hq).1).1
    have h4 := (hc.swIn hq).2
    unfold PoR at h1
    exact key _ _ _ (by omega) (by omega) (by omega)
  · have h1 := (hc.pg q hq.1).1
    unfold PoR at h1
    refine flFault_ok (by simp [answerOwn]) (by simp [answerOwn]) ⟨of_decide_eq_true rfl, of_decide_eq_true rfl⟩ ⟨of_decide_eq_true rfl, of_decide_eq_true rfl⟩ ?_ rfl
    show List.all [_, _] _ = true
    simp only [List.all_cons, List.all_nil, mx_w (i := 0) (v := q.id) (by omega) (by omega), mx_w (i := 5) (v := q.ip) (by omega) (by omega), Bool.and_true]
  · have h1 := hc.sr s hs
    unfold SwR at h1
    exact key _ _ _ (by omega) (by omega) (by omega)
theorem leads_ok {c : Cf} (hc : CfOk c) {ch : Int} (hch : 0 ≤ ch ∧ ch ≤ 5) {g : Fl} (h : g ∈ leadsF c (hereF c ch)) : flFault g = 0 := by
  rcases leads_mem.1 h with ⟨q, hq, rfl⟩ | ⟨q, hq, rfl | rfl⟩ | ⟨s, hs, _, h⟩
  · have h1 := (hc.pg q hq).1
    have h3 := (hc.sr _ (hc.swIn hq).1).1
    have h4 := (hc.swIn hq).2
    unfold PoR at h1
    refine flFault_ok (by simp [leadPort]) (by simp [leadPort]) ⟨of_decide_eq_true rfl, of_decide_eq_true rfl⟩ ⟨of_decide_eq_true rfl, of_decide_eq_true rfl⟩ ?_ ?_
    · show List.all [_, _] _ = true
      simp only [List.all_cons, List.all_nil, mx_w (i := 8) (v := q.sw) (by omega) (by omega), mx_w (i := 1) (v := q.mac) (by omega) (by omega), Bool.and_true]
    · exact dxOk_cons (dx_put (by omega) (by omega)) (dxOk_cons (dx_go (by show (3 : Int) + 1 ≤ 4 ∧ _; omega)) rfl)
  · have h1 := (hc.pg q hq.1).1
    unfold PoR at h1
    refine flFault_ok (by simp [leadSelf]) (by simp [leadSelf]) ⟨of_decide_eq_true rfl, of_decide_eq_true rfl⟩ ⟨of_decide_eq_true rfl, of_decide_eq_true rfl⟩ ?_ rfl
    show List.all [_, _] _ = true
    simp only [List.all_cons, List.all_nil, mx_w (i := 0) (v := q.id) (by omega) (by omega), mx_w (i := 1) (v := q.mac) (by omega) (by omega), Bool.and_true]
  · have h1 := (hc.pg q hq.1).1
    unfold PoR at h1
    have hl := flat_le (f := floodQ q) (n := 2) (fun r => by unfold floodQ; split <;> simp) c.ps
    have hpl := hc.pl
    refine flFault_ok (by simp [leadAll]) (by show (c.ps.flatMap (floodQ q)).length ≤ 100; omega) ⟨of_decide_eq_true rfl, of_decide_eq_true rfl⟩ ⟨of_decide_eq_true rfl, of_decide_eq_true rfl⟩ ?_ ?_
    · show List.all [_, _] _ = true
      simp only [List.all_cons, List.all_nil, mx_w (i := 0) (v := q.id) (by omega) (by omega), mx_w (i := 1) (v := 65535) (by omega) (by omega), Bool.and_true]
    · have := dxOk_app (t := 3) (l := c.ps.flatMap (floodQ q)) (m := []) (fun d hd b => ?_) rfl
      · rw [List.append_nil] at this
        exact this
      · obtain ⟨r, hr, hd⟩ := List.mem_flatMap.1 hd
        have h2 := (hc.pg r hr).1
        unfold PoR at h2
        unfold floodQ at hd
        split at hd
        · simp only [List.mem_cons, List.not_mem_nil, or_false] at hd
          rcases hd with rfl | rfl
          · exact dx_put (by omega) (by omega)
          · exact dx_tunnel (by omega)
        · simp at hd
  · have hs1 := hc.sr s hs
    unfold SwR at hs1
    have m8 := mx_w (i := 8) (v := s.id) (by omega) (by omega)
    have m1 := mx_w (i := 1) (v := 60000 + s.id) (by omega) (by omega)
    rcases h with rfl | rfl | ⟨q, hq, _, _, rfl⟩
    · refine flFault_ok (by simp [leadTtl, routerM]) (by simp [leadTtl]) ⟨of_decide_eq_true rfl, of_decide_eq_true rfl⟩ ⟨of_decide_eq_true rfl, of_decide_eq_true rfl⟩ ?_ rfl
      show List.all [_, _, _] _ = true
      simp only [List.all_cons, List.all_nil, m8, m1, mx_w (i := 6) (v := 0) (by omega) (by omega), Bool.and_true]
    · refine flFault_ok (by simp [leadTtl, routerM]) (by simp [leadTtl]) ⟨of_decide_eq_true rfl, of_decide_eq_true rfl⟩ ⟨of_decide_eq_true rfl, of_decide_eq_true rfl⟩ ?_ rfl
      show List.all [_, _, _] _ = true
      simp only [List.all_cons, List.all_nil, m8, m1, mx_w (i := 6) (v := 1) (by omega) (by omega), Bool.and_true]
    · have h1 := (hc.pg q hq).1
      have h3 := (hc.sr _ (hc.swIn hq).1).1
      unfold PoR at h1
      refine flFault_ok (by simp [leadTo, routerM]) (by simp [leadTo]) ⟨of_decide_eq_true rfl, of_decide_eq_true rfl⟩ ⟨of_decide_eq_true rfl, of_decide_eq_true rfl⟩ ?_ ?_
      · show List.all [_, _, _] _ = true
        simp only [List.all_cons, List.all_nil, m8, m1, mx_w (i := 5) (v := q.ip) (by omega) (by omega), Bool.and_true]
      · exact dxOk_cons (dx_put (by omega) (by omega)) (dxOk_cons (dx_put (by omega) (by omega)) (dxOk_cons (dx_less (by omega)) (dxOk_cons (dx_put (by omega) (by omega)) (dxOk_cons (dx_put (by omega) (by omega)) (dxOk_cons (dx_go (by show (3 : Int) + 1 ≤ 4 ∧ _; omega)) rfl)))))
theorem leave_ok {c : Cf} (hc : CfOk c) {ch : Int} (hch : 0 ≤ ch ∧ ch ≤ 5) {g : Fl} (h : g ∈ leavesF c ch) : flFault g = 0 := by
  obtain ⟨q, hq, h⟩ := leaves_mem.1 h
  have h1 := (hc.pg q hq).1
  have h3 := (hc.sr _ (hc.swIn hq).1).1
  have h4 := (hc.swIn hq).2
  unfold PoR at h1
  have m9 := mx_w (i := 9) (v := q.id) (by omega) (by omega)
  have m8 := mx_w (i := 8) (v := q.sw) (by omega) (by omega)
  rcases h with ⟨e, rfl | rfl | rfl | rfl⟩ | ⟨e1, e2, rfl⟩
  · refine flFault_ok (by simp [leave1]) (by simp [leave1]) ⟨of_decide_eq_true rfl, of_decide_eq_true rfl⟩ ⟨of_decide_eq_true rfl, of_decide_eq_true rfl⟩ ?_ (dxOk_cons (dx_go (by show (4 : Int) + 1 ≤ 5 ∧ _; omega)) rfl)
    show List.all [_] _ = true
    simp only [List.all_cons, List.all_nil, m9, Bool.and_true]
  · refine flFault_ok (by simp [leave2, leaveM]) (by simp [leave2]) ⟨of_decide_eq_true rfl, of_decide_eq_true rfl⟩ ⟨of_decide_eq_true rfl, of_decide_eq_true rfl⟩ ?_ (dxOk_cons (dx_out (by omega)) rfl)
    show List.all [_, _, _] _ = true
    simp only [List.all_cons, List.all_nil, m8, m9, mx_w (i := 3) (v := 2) (by omega) (by omega), Bool.and_true]
  · refine flFault_ok (by simp [leave3, leaveM]) (by simp [leave3]) ⟨of_decide_eq_true rfl, of_decide_eq_true rfl⟩ ⟨of_decide_eq_true rfl, of_decide_eq_true rfl⟩ ?_ (dxOk_cons (dx_go (by show (5 : Int) + 1 ≤ 6 ∧ _; omega)) rfl)
    show List.all [_, _, _] _ = true
    simp only [List.all_cons, List.all_nil, m8, m9, mx_w (i := 3) (v := 3) (by omega) (by omega), Bool.and_true]
  · refine flFault_ok (by simp [leave4]) (by simp [leave4]) ⟨of_decide_eq_true rfl, of_decide_eq_true rfl⟩ ⟨of_decide_eq_true rfl, of_decide_eq_true rfl⟩ ?_ (dxOk_cons (dx_out (by omega)) rfl)
    show List.all [_] _ = true
    simp only [List.all_cons, List.all_nil, m9, Bool.and_true]
  · refine flFault_ok (by simp [leave5]) (by simp [leave5]) ⟨of_decide_eq_true rfl, of_decide_eq_true rfl⟩ ⟨of_decide_eq_true rfl, of_decide_eq_true rfl⟩ ?_ (dxOk_cons (dx_tunnel (by omega)) rfl)
    show List.all [_] _ = true
    simp only [List.all_cons, List.all_nil, m9, Bool.and_true]
theorem comp_ok {c : Cf} (hc : CfOk c) {ch : Int} (hch : 0 ≤ ch ∧ ch ≤ 5) {g : Fl} (h : g ∈ compF_ c ch) : flFault g = 0 := by
  rcases comp_mem.1 h with h | h | h | h | h | h
  · exact enters_ok hc hch h
  · exact rules_ok hc (by omega) h
  · exact answers_ok hc hch h
  · exact leads_ok hc hch h
  · exact leave_ok hc hch h
  · exact rules_ok hc (by omega) h
theorem all_len {c : Cf} (hc : CfOk c) {ch : Int} : (allF c ch).length ≤ 1100 := by
  have hp := hc.pl
  have hs := hc.sl
  have ha := hc.al
  have hH : (hereF c ch).length ≤ 40 := Nat.le_trans (List.length_filter_le _ _) hp
  have e1 : (entersF (hereF c ch)).length ≤ 81 := by
    have := flat_le (f := fun p => [enterA p, enterB_ p]) (n := 2) (fun _ => by simp) (hereF c ch)
    rw [entersF, List.length_cons]
    omega
  have e2 : ∀ t next inn, (rulesF c t next inn).length ≤ 41 := fun t next inn => by
    have h1 : (sortA (ofKind c inn)).length ≤ 40 := by
      rw [sortA, (List.mergeSort_perm _ geA).length_eq]
      exact Nat.le_trans (List.length_filter_le _ _) ha
    rw [rulesF, List.length_append, rulesL_len]
    simp only [List.length_cons, List.length_nil]
    omega
  have e3 : (answersF c (hereF c ch)).length ≤ 92 := by
    have := flat_le (f := answerSw) (n := 1) (fun s => by unfold answerSw; split <;> simp) c.ss
    rw [answersF, List.length_append, List.length_append, List.length_map, List.length_map]
    omega
  have e4 : (leadsF c (hereF c ch)).length ≤ 624 := by
    have h1 := flat_le (f := fun p => [leadSelf p, leadAll c p]) (n := 2) (fun _ => by simp) (hereF c ch)
    have h2 : ∀ s : Sw, (leadSw c s).length ≤ 42 := fun s => by
      have := flat_le (f := leadSwP c s) (n := 1) (fun p => by unfold leadSwP; split <;> simp) c.ps
      unfold leadSw
      split
      · simp
      · rw [List.length_append]
        show 2 + _ ≤ 42
        omega
    have h3 := flat_le (f := leadSw c) (n := 42) h2 c.ss
    rw [leadsF, List.length_append, List.length_append, List.length_map]
    omega
  have e5 : (leavesF c ch).length ≤ 160 := by
    have := flat_le (f := leaveF ch) (n := 4) (fun p => by unfold leaveF; split <;> (try split) <;> simp) c.ps
    unfold leavesF
    omega
  have e6 := e2 1 3 true
  have e7 := e2 6 7 false
  unfold allF
  simp only [List.length_append]
  omega
theorem comp_len {c : Cf} (hc : CfOk c) {ch : Int} : (compF_ c ch).length ≤ 1100 := by
  have h1 := compF_len (sortF (allF c ch))
  rw [(sortF_perm _).length_eq] at h1
  have h2 := all_len (ch := ch) hc
  unfold compF_ sortedF
  omega
theorem comp_fault {c : Cf} (hc : CfOk c) {ch : Int} (hch : 0 ≤ ch ∧ ch ≤ 5) : flowsFault (compF_ c ch) = 0 := by
  have := comp_len (ch := ch) hc
  unfold flowsFault
  rw [if_neg (by omega)]
  exact flsFault_all fun g hg => comp_ok hc hch hg
end
theorem comp_strict (c : Cf) (ch : Int) : StrictF (compF_ c ch) := sortedF_strict _
def compE (c : Cf) (ch : Int) : Int := if cfMay c = false then 8 else if ch < 0 ∨ 6 ≤ ch then 2 else 0
def compR (c : Cf) (ch : Int) : List Fl := if compE c ch ≠ 0 then [] else compF_ c ch
end Go.Proofs.Ytmidechdlbcepaa

namespace Go.Proofs.Ytmidechdlbcepaa
open Go.RowKit
set_option maxRecDepth 100000

abbrev Kn := List (Option Cf)
structure KnOk (K : Kn) : Prop where
  ok : ∀ k ∈ K, ∀ c, k = some c → CfOk c
theorem KnOk.at {K : Kn} (h : KnOk K) (i : Nat) : ∀ c, K.getD i none = some c → CfOk c := by
  intro c hc
  rcases Nat.lt_or_ge i K.length with hi | hi
  · rw [List.getD_eq_getElem?_getD, List.getElem?_eq_getElem hi, Option.getD_some] at hc
    exact h.ok _ (List.getElem_mem hi) c hc
  · rw [List.getD_eq_getElem?_getD, List.getElem?_eq_none hi] at hc
    cases hc
section
end
structure GlOk (c : Cf) (g : Gl) : Prop where
  net : 0 ≤ g.net ∧ g.net ≤ 65535
  to : 1 ≤ g.to ∧ g.to ≤ 999
  is : frameFault g.is = 0
  kind : g.is.kind = 2 ∨ g.is.kind = 3
  po : ∃ q ∈ c.ps, poAt c g.to = some q ∧ 0 ≤ q.ch ∧ q.ch ≤ 5
theorem ledFr_ok {f : Fr} {q : Po} {t : Sw} (hff : frameFault f = 0) (hk : f.kind = 3) (ht : 1 < f.ttl) (h1 : 0 ≤ q.mac ∧ q.mac ≤ 65535) (h2 : 0 ≤ 60000 + t.id ∧ 60000 + t.id ≤ 65535) : frameFault (ledFr f q t) = 0 := by
  have hf := frMay hff
  have e : ∀ n : Int, 0 ≤ n ∧ n ≤ 65535 → word n = true := fun n h => decide_eq_true h
  have := hf.ttl
  have := hf.body
  unfold frameFault ledFr
  dsimp only
  rw [if_neg (by omega), if_neg (by rw [e _ h1, e _ h2, e _ hf.ipSrc, e _ hf.ipDst, e _ hf.port]; simp; omega), if_neg (by omega), if_neg (by omega)]
theorem tellG_ok {p : Po} {f : Fr} {net mac : Int} (hi : 0 ≤ f.ipDst ∧ f.ipDst ≤ 65535) (hp : PoR p) (h1 : 0 ≤ mac ∧ mac ≤ 65535) : frameFault (tellG p f net mac).is = 0 := by
  have e : ∀ n : Int, 0 ≤ n ∧ n ≤ 65535 → word n = true := fun n h => decide_eq_true h
  unfold PoR at hp
  unfold frameFault tellG
  dsimp only
  rw [if_neg (by omega), if_neg (by rw [e _ hi, e _ h1, e p.mac (by omega), e p.ip (by omega), e 0 (by omega)]; simp), if_neg (by decide), if_neg (by decide)]
theorem led_ok {c : Cf} (hc : CfOk c) {ch : Int} (hch : 0 ≤ ch ∧ ch ≤ 5) {f : Fr} (hff : frameFault f = 0) {id : Int} {g : Gl} (hg : g ∈ ledF c ch id f) : GlOk c g := by
  have hf := frMay hff
  unfold ledF at hg
  cases hpo : poAt c id with
  | none => rw [hpo] at hg; simp at hg
  | some p =>
    rw [hpo] at hg
    dsimp only at hg
    obtain ⟨hp, hid⟩ := poAt_mem hpo
    have hpr := (hc.pg p hp).1
    have hpr2 := hpr
    unfold PoR at hpr2
    have hs := hc.swIn hp
    have hsr := hc.sr _ hs.1
    unfold SwR at hsr
    split at hg
    · simp at hg
    rename_i hbad
    have hpc : p.ch = ch := Classical.byContradiction fun h => hbad (.inl h)
    have key : ∀ mac, 0 ≤ mac ∧ mac ≤ 65535 → GlOk c (tellG p f (swAt c.ss p.sw).id mac) := fun mac hm =>
      ⟨by show 0 ≤ (swAt c.ss p.sw).id ∧ (swAt c.ss p.sw).id ≤ 65535; omega, hpr2.1, tellG_ok hf.ipDst hpr hm, .inl rfl, p, hp, poAt_is hc hp, by omega⟩
    split at hg
    · unfold askG at hg
      split at hg
      · obtain rfl := List.mem_singleton.1 hg
        exact key _ (by omega)
      · split at hg
        · rename_i q hq
          obtain rfl := List.mem_singleton.1 hg
          have hq1 := (hc.pg q (List.mem_of_find?_eq_some hq)).1
          unfold PoR at hq1
          exact key _ (by omega)
        · simp at hg
    · rename_i hk1
      unfold dataG at hg
      split at hg
      · simp at hg
      rename_i hk
      have hk3 : f.kind = 3 := Classical.byContradiction fun h => hk (.inl h)
      obtain ⟨q, hq, hg⟩ := List.mem_flatMap.1 hg
      have hqr := (hc.pg q hq).1
      unfold PoR at hqr
      have ht := hc.swIn hq
      have htr := hc.sr _ ht.1
      unfold SwR at htr
      unfold goalQ at hg
      split at hg
      · simp at hg
      rename_i hqc
      rcases List.mem_append.1 hg with hg | hg
      · split at hg
        · obtain rfl := List.mem_singleton.1 hg
          exact ⟨by show 0 ≤ (swAt c.ss p.sw).id ∧ (swAt c.ss p.sw).id ≤ 65535; omega, hqr.1, hff, .inr hk3, q, hq, poAt_is hc hq, by omega⟩
        · simp at hg
      · split at hg
        · rename_i h
          obtain rfl := List.mem_singleton.1 hg
          exact ⟨by show 0 ≤ (swAt c.ss q.sw).id ∧ (swAt c.ss q.sw).id ≤ 65535; omega, hqr.1, ledFr_ok hff hk3 h.2.2.1 (by omega) (by omega), .inr hk3, q, hq, poAt_is hc hq, by omega⟩
        · simp at hg
end Go.Proofs.Ytmidechdlbcepaa

namespace Go.Proofs.Ytmidechdlbcepaa
open Go.RowKit
set_option maxRecDepth 100000

def atP (n : Int) : List Po → Int → Int
  | [], a => a
  | p :: l, a => atP n l (if p.id = n then p.ch else a)
theorem atP_snoc (n : Int) (p : Po) : ∀ (l : List Po) (a : Int), atP n (l ++ [p]) a = if p.id = n then p.ch else atP n l a
  | [], _ => rfl
  | q :: l, a => by rw [List.cons_append, atP, atP_snoc n p l]; rfl
theorem atP_is {c : Cf} (hc : CfOk c) {n : Int} {q : Po} (h : poAt c n = some q) : atP n c.ps 0 = q.ch := by
  obtain ⟨hq, hid⟩ := poAt_mem h
  have key : ∀ l : List Po, (∀ p ∈ l, p ∈ c.ps) → ∀ a, (q ∈ l ∨ a = q.ch) → atP n l a = q.ch := by
    intro l
    induction l with
    | nil => intro _ a h; rcases h with h | h; simp at h; exact h
    | cons p l ih =>
      intro hl a h
      rw [atP]
      apply ih fun p hp => hl p (by simp [hp])
      by_cases e : p.id = n
      · rw [if_pos e]
        right
        rw [hc.id1 (hl p (by simp)) hq (by omega)]
      · rw [if_neg e]
        rcases h with h | h
        · rcases List.mem_cons.1 h with rfl | h
          · exact absurd hid e
          · exact .inl h
        · exact .inr h
  exact key c.ps (fun _ h => h) 0 (.inl hq)
def tunB (at_ : Int) (g : Gl) (s : Snt) : Bool := ((s.kind == 6 && s.n == at_) && s.p.f8 == g.net) && s.p.f9 == g.to
def outB (c : Cf) (ch at_ : Int) (g : Gl) (s : Snt) : Bool := ((s.kind == 5 && s.n == g.to) && at_ == ch) && comesG c ch g
def frV (f : Fr) : List Value := [.int .i64 f.dst, .int .i64 f.src, .int .i64 f.kind, .int .i64 f.ipSrc, .int .i64 f.ipDst, .int .i64 f.ttl, .int .i64 f.port, .string f.body]
theorem frV_same (f : Fr) : beqL (frV f) (frV f) = true := by simp [frV, beqL, beqV]
def hitB (c : Cf) (ch at_ : Int) (g : Gl) (s : Snt) (told : Bool) (found : Int) : Bool := ((!told) && (tunB at_ g s || outB c ch at_ g s)) && (found == 0)
def markN (c : Cf) (ch at_ : Int) (g : Gl) (S : List Snt) (T : List Bool) : Nat → List Bool × Int
  | 0 => (T, 0)
  | k + 1 => match S[k]? with
    | some s => if beqL (frV (frOfP s.p)) (frV g.is) = true ∧ hitB c ch at_ g s ((markN c ch at_ g S T k).1.getD k false) (markN c ch at_ g S T k).2 = true then ((markN c ch at_ g S T k).1.set k true, (markN c ch at_ g S T k).2 + 1) else markN c ch at_ g S T k
    | none => markN c ch at_ g S T k
theorem markN_len (c : Cf) (ch at_ : Int) (g : Gl) (S : List Snt) (T : List Bool) : ∀ k, (markN c ch at_ g S T k).1.length = T.length
  | 0 => rfl
  | k + 1 => by
    have ih := markN_len c ch at_ g S T k
    rw [markN]
    split
    · split
      · rw [List.length_set, ih]
      · exact ih
    · exact ih
theorem markN_none {c : Cf} {ch at_ : Int} {g : Gl} {S : List Snt} {T : List Bool} (h : ∀ s ∈ S, tunB at_ g s = false ∧ outB c ch at_ g s = false) : ∀ k, markN c ch at_ g S T k = (T, 0)
  | 0 => rfl
  | k + 1 => by
    rw [markN, markN_none h k]
    split
    · rename_i s hs
      obtain ⟨h1, h2⟩ := h s (List.mem_of_getElem? hs)
      rw [if_neg]
      intro hh
      have := hh.2
      simp only [hitB, h1, h2, Bool.or_self, Bool.and_false, Bool.false_and] at this
      cases this
    · rfl
theorem markN_one {c : Cf} {ch at_ : Int} {g : Gl} {S : List Snt} {T : List Bool} {m : Nat} {s : Snt} (hm : S[m]? = some s) (h1 : beqL (frV (frOfP s.p)) (frV g.is) = true) (h2 : (tunB at_ g s || outB c ch at_ g s) = true) (hT : T.getD m false = false) (h : ∀ j x, j ≠ m → S[j]? = some x → tunB at_ g x = false ∧ outB c ch at_ g x = false) :
    ∀ k, markN c ch at_ g S T k = if k ≤ m then (T, 0) else (T.set m true, 1)
  | 0 => by rw [if_pos (by omega)]; rfl
  | k + 1 => by
    rw [markN, markN_one hm h1 h2 hT h k]
    by_cases e : k = m
    · subst e
      rw [hm]
      dsimp only
      rw [if_pos (Nat.le_refl _), if_pos, if_neg (by omega)]
      · rfl
      · refine ⟨h1, ?_⟩
        dsimp only
        rw [hitB, hT, h2]
        rfl
    · have hk : (if k ≤ m then (T, (0 : Int)) else (T.set m true, 1)) = if k + 1 ≤ m then (T, 0) else (T.set m true, 1) := by
        by_cases h3 : k ≤ m
        · rw [if_pos h3, if_pos (by omega)]
        · rw [if_neg h3, if_neg (by omega)]
      rw [← hk]
      split
      · rename_i x hx
        obtain ⟨h4, h5⟩ := h k x e hx
        rw [if_neg]
        intro hh
        have := hh.2
        simp only [hitB, h4, h5, Bool.or_self, Bool.and_false, Bool.false_and] at this
        cases this
      · rfl
def meansN (c : Cf) (ch : Int) (S : List Snt) : List Gl → List Bool → Option (List Bool)
  | [], T => some T
  | g :: G, T => if (markN c ch (atP g.to c.ps 0) g S T S.length).2 = 0 ∧ (atP g.to c.ps 0 ≠ ch ∨ comesG c ch g = true) then none else meansN c ch S G (markN c ch (atP g.to c.ps 0) g S T S.length).1
theorem led_dist {c : Cf} (hc : CfOk c) (ch id : Int) (f : Fr) : (ledF c ch id f).Pairwise fun a b => a.to ≠ b.to := by
  unfold ledF
  split
  · exact .nil
  · rename_i p hpo
    have hp := (poAt_mem hpo).1
    split
    · exact .nil
    · split
      · unfold askG
        split
        · exact List.pairwise_singleton _ _
        · split
          · exact List.pairwise_singleton _ _
          · exact .nil
      · unfold dataG
        split
        · exact .nil
        · have hto : ∀ q g, g ∈ goalQ c p f q → g.to = q.id := fun q g hg => by
            unfold goalQ at hg
            split at hg
            · simp at hg
            · rcases List.mem_append.1 hg with hg | hg
              · split at hg
                · obtain rfl := List.mem_singleton.1 hg; rfl
                · simp at hg
              · split at hg
                · obtain rfl := List.mem_singleton.1 hg; rfl
                · simp at hg
          have hpw : ∀ l : List Po, (∀ q ∈ l, q ∈ c.ps) → l.Pairwise (fun a b => a.id ≠ b.id) → (l.flatMap (goalQ c p f)).Pairwise fun a b => a.to ≠ b.to := by
            intro l
            induction l with
            | nil => intro _ _; exact .nil
            | cons q l ih =>
              intro hl hd
              obtain ⟨h1, h2⟩ := List.pairwise_cons.1 hd
              rw [List.flatMap_cons, List.pairwise_append]
              refine ⟨?_, ih (fun x hx => hl x (by simp [hx])) h2, fun a ha b hb => ?_⟩
              · have hs := hc.swIn hp
                have hsr := (hc.sr _ hs.1).1
                have hqr := (hc.pg q (hl q (by simp))).1.2.1
                unfold goalQ
                split
                · exact .nil
                · by_cases e1 : q.sw = (swAt c.ss p.sw).id ∧ q.id ≠ p.id ∧ (f.dst = 65535 ∨ f.dst = q.mac)
                  · rw [if_pos e1, if_neg (fun h => by rcases e1.2.2 with h3 | h3 <;> omega)]
                    exact List.pairwise_singleton _ _
                  · rw [if_neg e1, List.nil_append]
                    split
                    · exact List.pairwise_singleton _ _
                    · exact .nil
              · obtain ⟨x, hx, hb⟩ := List.mem_flatMap.1 hb
                rw [hto q a ha, hto x b hb]
                exact h1 x hx
          exact hpw c.ps (fun _ h => h) (hc.pd.imp fun h => h.1)
theorem sent_other {c : Cf} {ch id at_ : Int} {b : Bool} {g g2 : Gl} {s : Snt} (h : sentG c ch id b g2 = some s) (hne : g2.to ≠ g.to) : tunB at_ g s = false ∧ outB c ch at_ g s = false := by
  have hp : s.p = pkG id g2 ∧ (s.kind = 5 → s.n = g2.to) := by
    unfold sentG at h
    split at h
    · cases h
    · split at h
      · split at h
        · obtain rfl := Option.some.inj h
          exact ⟨rfl, fun _ => rfl⟩
        · cases h
      · obtain rfl := Option.some.inj h
        exact ⟨rfl, fun h => by cases h⟩
  have h9 : s.p.f9 = g2.to := by rw [hp.1]; rfl
  constructor
  · rw [Bool.eq_false_iff]
    intro h
    simp only [tunB, Bool.and_eq_true, beq_iff_eq] at h
    omega
  · rw [Bool.eq_false_iff]
    intro h
    simp only [outB, Bool.and_eq_true, beq_iff_eq] at h
    have := hp.2 h.1.1.1
    omega
theorem means_go {c : Cf} (hc : CfOk c) {ch id : Int} {b : Bool} {S : List Snt} : ∀ (G A : List Gl), (∀ g ∈ G, GlOk c g) → (A ++ G).Pairwise (fun x y => x.to ≠ y.to) → S = (A ++ G).filterMap (sentG c ch id b) →
    meansN c ch S G (List.replicate (A.filterMap (sentG c ch id b)).length true ++ List.replicate (G.filterMap (sentG c ch id b)).length false) = some (List.replicate S.length true)
  | [], A, _, _, hS => by
    rw [meansN, hS]
    simp
  | g :: G, A, hG, hd, hS => by
    obtain ⟨_, _, _, _, q, hq, hpo, _, _⟩ := hG g (by simp)
    have hat : atP g.to c.ps 0 = q.ch := atP_is hc hpo
    have hgA : ∀ x ∈ A, x.to ≠ g.to := fun x hx => (List.pairwise_append.1 hd).2.2 x hx g (by simp)
    have hgG : ∀ x ∈ G, x.to ≠ g.to := fun x hx h => (List.pairwise_cons.1 (List.pairwise_append.1 hd).2.1).1 x hx h.symm
    have hS2 : S = A.filterMap (sentG c ch id b) ++ ((g :: G).filterMap (sentG c ch id b)) := by rw [hS, List.filterMap_append]
    have hAs : ∀ x ∈ A.filterMap (sentG c ch id b), tunB q.ch g x = false ∧ outB c ch q.ch g x = false := fun x hx => by
      obtain ⟨y, hy, hyx⟩ := List.mem_filterMap.1 hx
      exact sent_other hyx (hgA y hy)
    have hGs : ∀ x ∈ G.filterMap (sentG c ch id b), tunB q.ch g x = false ∧ outB c ch q.ch g x = false := fun x hx => by
      obtain ⟨y, hy, hyx⟩ := List.mem_filterMap.1 hx
      exact sent_other hyx (hgG y hy)
    have ih := means_go hc (ch := ch) (id := id) (b := b) (S := S) G (A ++ [g]) (fun x hx => hG x (by simp [hx])) (by rw [List.append_assoc]; exact hd) (by rw [List.append_assoc]; exact hS)
    rw [meansN, hat]
    rw [List.filterMap_append, fm_one] at ih
    have hsg := sentG_at (ch := ch) (i := id) (b := b) hpo
    rw [List.filterMap_cons] at hS2 ⊢
    cases hs : sentG c ch id b g with
    | none =>
      rw [hs] at ih hS2
      dsimp only at hS2 ⊢
      rw [show (none : Option Snt).toList = [] from rfl, List.append_nil] at ih
      rw [markN_none (fun x hx => by
        rw [hS2] at hx
        rcases List.mem_append.1 hx with hx | hx
        · exact hAs x hx
        · exact hGs x hx)]
      dsimp only
      rw [if_neg, ih]
      rintro ⟨_, h⟩
      rw [hs] at hsg
      split at hsg
      · rename_i h1
        split at hsg
        · cases hsg
        · rename_i h2
          rcases h with h | h
          · exact h h1.1
          · exact h2 h
      · cases hsg
    | some s =>
      rw [hs] at ih hS2
      dsimp only at hS2 ⊢
      have hm : S[(A.filterMap (sentG c ch id b)).length]? = some s := by
        rw [hS2, List.getElem?_append_right (Nat.le_refl _), Nat.sub_self]
        rfl
      have hTl : (List.replicate (A.filterMap (sentG c ch id b)).length true).length = (A.filterMap (sentG c ch id b)).length := List.length_replicate
      have hT : (List.replicate (A.filterMap (sentG c ch id b)).length true ++ List.replicate (s :: G.filterMap (sentG c ch id b)).length false).getD (A.filterMap (sentG c ch id b)).length false = false := by
        rw [List.getD_eq_getElem?_getD, List.getElem?_append_right (by rw [hTl]; exact Nat.le_refl _), hTl, Nat.sub_self]
        rfl
      have hfit : beqL (frV (frOfP s.p)) (frV g.is) = true ∧ (tunB q.ch g s || outB c ch q.ch g s) = true := by
        rw [hs] at hsg
        split at hsg
        · rename_i h1
          split at hsg
          · rename_i h2
            obtain rfl := Option.some.inj hsg
            refine ⟨frV_same _, ?_⟩
            rw [Bool.or_eq_true]
            right
            simp only [outB, Bool.and_eq_true, beq_iff_eq]
            exact ⟨⟨⟨trivial, trivial⟩, h1.1⟩, h2⟩
          · cases hsg
        · obtain rfl := Option.some.inj hsg
          refine ⟨frV_same _, ?_⟩
          rw [Bool.or_eq_true]
          left
          simp only [tunB, Bool.and_eq_true, beq_iff_eq]
          exact ⟨⟨⟨trivial, trivial⟩, rfl⟩, rfl⟩
      rw [markN_one hm hfit.1 hfit.2 hT (fun j x hj hx => by
        rw [hS2] at hx
        rcases Nat.lt_or_ge j (A.filterMap (sentG c ch id b)).length with hlt | hge
        · rw [List.getElem?_append_left hlt] at hx
          exact hAs x (List.mem_of_getElem? hx)
        · rw [List.getElem?_append_right hge] at hx
          obtain ⟨n, hn⟩ : ∃ n, j - (A.filterMap (sentG c ch id b)).length = n + 1 := ⟨j - (A.filterMap (sentG c ch id b)).length - 1, by omega⟩
          rw [hn, List.getElem?_cons_succ] at hx
          exact hGs x (List.mem_of_getElem? hx))]
      have hlt : ¬ S.length ≤ (A.filterMap (sentG c ch id b)).length := by
        have := (List.getElem?_eq_some_iff.1 hm).1
        omega
      rw [if_neg hlt]
      dsimp only
      rw [if_neg (by rintro ⟨h, _⟩; cases h)]
      rw [← ih]
      congr 1
      rw [List.set_append_right _ _ (by rw [hTl]; exact Nat.le_refl _), hTl, Nat.sub_self]
      show _ ++ (List.replicate ((G.filterMap (sentG c ch id b)).length + 1) false).set 0 true = _
      rw [List.replicate_succ, List.set_cons_zero, show (some s).toList = [s] from rfl, List.length_append, List.length_singleton, List.replicate_succ', List.append_assoc]
      rfl
theorem means_all {c : Cf} (hc : CfOk c) {ch : Int} (hch : 0 ≤ ch ∧ ch ≤ 5) {f : Fr} (hff : frameFault f = 0) {id : Int} (hid : 1 ≤ id ∧ id ≤ 65535) (hG : ∀ g ∈ ledF c ch id f, GlOk c g) :
    meansN c ch (ranOf (compF_ c ch) (pkOf f id 0 0)) (ledF c ch id f) (List.replicate (ranOf (compF_ c ch) (pkOf f id 0 0)).length false) = some (List.replicate (ranOf (compF_ c ch) (pkOf f id 0 0)).length true) := by
  have hs := led_sent hc hch.1 hff hid
  rw [hs]
  have := means_go hc (ch := ch) (id := id) (b := floodB f) (S := (ledF c ch id f).filterMap (sentG c ch id (floodB f))) (ledF c ch id f) [] hG (led_dist hc ch id f) rfl
  exact this
end Go.Proofs.Ytmidechdlbcepaa
