import Derived.Test.YtmidechdlbcepaaGreatPack31
import Derived.Test.YtmidechdlbcepaaGreatPack06
import Derived.Test.YtmidechdlbcepaaGreatPack32
import Derived.Test.YtmidechdlbcepaaGreatPack23
import Derived.Test.YtmidechdlbcepaaGreatPack05
import Derived.Test.YtmidechdlbcepaaGreatPack26
import Derived.Test.YtmidechdlbcepaaGreatPack25
set_option linter.unusedSimpArgs false
set_option linter.unusedVariables false
namespace Go.Proofs.YtmidechdlbcepaaGreat
open Go.RowKit
set_option maxRecDepth 100000
theorem any_at {α : Type} {p : α → Bool} {l : List α} {k : Nat} {x : α} (hk : l[k]? = some x) : (l.drop k).any p = (p x || (l.drop (k + 1)).any p) := by
  have hlt := (List.getElem?_eq_some_iff.1 hk).1
  have e : l.drop k = x :: l.drop (k + 1) := by rw [List.drop_eq_getElem_cons hlt, (List.getElem?_eq_some_iff.1 hk).2]
  rw [e, List.any_cons]
def Cf.Small (c : Cf) : Prop := c.ss.length < 9223372036854775807 ∧ c.ps.length < 9223372036854775807 ∧ c.acs.length < 9223372036854775807

set_option maxHeartbeats 1000000 in
theorem taken_T (c : Cf) (tenant ip : Int) (hl : c.Small) (hw : c.Wf) : Fun Tryz.prog 94 [.agg ((encCf c).map .fv), .fv (.int .i64 tenant), .fv (.int .i64 ip)] (.fv (.bool (takenB c tenant ip))) := by
  have hl1 := hl.1
  refine Fun.body tbl_ok Tryz.func94 rfl (by kernel_rfl) rfl rfl rfl ?_
  repeat' (first | refine X.loc ?_ | refine nx ?_ | refine cb ?_ ?_ | (refine cc ?_ ?_ <;> intro hcond) | refine rb ?_ | refine nd ?_ | refine dk ?_ | fail)
  refine WP.loop (ι := Nat) (fun k => ⟨[(3, .optr 3 0), (4, .optr 4 0), (5, .optr 5 0), (10, .fv (slOf encSw c.ss)), (11, .fv (.int .i64 c.ss.length)), (12, .fv (.int .i64 k))], [(3, .box 26 ((encCf c).map .fv)), (4, .box 3 [.fv (.int .i64 tenant)]), (5, .box 3 [.fv (.int .i64 ip)])]⟩)
    (fun k => k ≤ c.ss.length ∧ c.ss.any (fun s => s.tenant == tenant && s.gate == ip) = (c.ss.drop k).any (fun s => s.tenant == tenant && s.gate == ip)) (fun k => c.ss.length - k) 0 ⟨by omega, rfl⟩ ?_ ?_
  · exact lq
  rintro k ⟨hk, hd⟩
  try dsimp only
  by_cases hlt : k < c.ss.length
  case neg =>
    repeat' (first | (apply X.loE; (· exact aR); (· first | exact .callL rfl rfl rfl (containsPo_T c.ps _ [.fptr [.int .i64 ip], .fptr (encCf c), .fptr [.int .i64 tenant]] (fun p => p.ip == ip && tenantAt c.ss p.sw == tenant) hl.2.1 (fun p hp => taken1_T c p tenant ip hl1 (hw p hp))) rfl | exact bl (containsPo_T c.ps _ [.fptr [.int .i64 ip], .fptr (encCf c), .fptr [.int .i64 tenant]] (fun p => p.ip == ip && tenantAt c.ss p.sw == tenant) hl.2.1 (fun p hp => taken1_T c p tenant ip hl1 (hw p hp))))) | refine X.loc ?_ | refine nx ?_ | refine cb ?_ ?_ | (refine cc ?_ ?_ <;> intro hcond) | (apply X.gsE; (· exact aR); (· exact aV); (· exact aW); (· intro hc; first | exact .callG rfl rfl rfl (containsPo_T c.ps _ [.fptr [.int .i64 ip], .fptr (encCf c), .fptr [.int .i64 tenant]] (fun p => p.ip == ip && tenantAt c.ss p.sw == tenant) hl.2.1 (fun p hp => taken1_T c p tenant ip hl1 (hw p hp))) rfl | exact bg (containsPo_T c.ps _ [.fptr [.int .i64 ip], .fptr (encCf c), .fptr [.int .i64 tenant]] (fun p => p.ip == ip && tenantAt c.ss p.sw == tenant) hl.2.1 (fun p hp => taken1_T c p tenant ip hl1 (hw p hp)))); (· exact aR)) | refine rb ?_ | refine nd ?_ | refine dk ?_ | fail)
    · exfalso
      simp at hcond
      omega
    · refine .f1 (.inl rfl) rfl ?_
      unfold takenB
      rw [hd, List.drop_of_length_le (by omega)]
      rfl
  case pos =>
    obtain ⟨x, hx⟩ : ∃ x, c.ss[k]? = some x := ⟨_, List.getElem?_eq_getElem hlt⟩
    have hat := any_at (p := fun s : Sw => s.tenant == tenant && s.gate == ip) hx
    repeat' (first | (apply X.loE; (· exact aR); (· first | (exact .eff (.idxS rfl rfl rfl encSw_len hx)))) | refine X.loc ?_ | refine nx ?_ | refine cb ?_ ?_ | (refine cc ?_ ?_ <;> intro hcond) | (apply X.gsE; (· exact aR); (· exact aV); (· exact aW); (· intro hc; first | (exact .eff (.idxS rfl rfl rfl encSw_len hx))); (· exact aR)) | refine rb ?_ | refine nd ?_ | refine dk ?_ | fail)
    · refine .f1 (.inl rfl) rfl ?_
      unfold takenB
      rw [hd, hat, hcond]
      rfl
    · refine ⟨k + 1, ⟨by omega, ?_⟩, by omega, ?_⟩
      · rw [hd, hat, hcond]
        rfl
      · exact lq
    · exfalso
      simp at hcond
      omega
theorem mask_val (b : Nat) (hb : b ≤ 16) : bits .andNot .i64 65535 (65535 / 2 ^ b) = ((65536 - 2 ^ (16 - b) : Nat) : Int) := by
  have : ∀ b : Fin 17, bits .andNot .i64 65535 (65535 / 2 ^ b.val) = ((65536 - 2 ^ (16 - b.val) : Nat) : Int) := by decide
  exact this ⟨b, by omega⟩
theorem mask_T (b : Nat) (hb : b ≤ 16) : Fun Tryz.prog 97 [.fv (.int .i64 b)] (.fv (.int .i64 ((65536 - 2 ^ (16 - b) : Nat) : Int))) := by
  have hb64 : (b : Int) ≤ (IntKind.i64).bits := by show (b : Int) ≤ 64; omega
  refine Fun.body tbl_ok Tryz.func97 rfl (by kernel_rfl) rfl rfl rfl ?_
  repeat' (first | (apply X.loE; (· exact aR); (· first | (exact .eff (.shr rfl rfl (by omega) hb64)))) | refine X.loc ?_ | refine nx ?_ | refine cb ?_ ?_ | (refine cc ?_ ?_ <;> intro hcond) | (apply X.gsE; (· exact aR); (· exact aV); (· exact aW); (· intro hc; first | (exact .eff (.shr rfl rfl (by omega) hb64))); (· exact aR)) | refine rb ?_ | refine nd ?_ | refine dk ?_ | fail)
  refine .f1 (.inl rfl) rfl ?_
  rw [Int.toNat_natCast]
  have := mask_val b hb
  congr 1
theorem andNot_mask (a b : Nat) (ha : a ≤ 65535) (hb : b ≤ 16) : bits .andNot .i64 (a : Int) ((65536 - 2 ^ (16 - b) : Nat) : Int) = ((a % 2 ^ (16 - b) : Nat) : Int) := by
  have hm : 65536 - 2 ^ (16 - b) ≤ 65535 := by have := Nat.two_pow_pos (16 - b); omega
  generalize hmm : 65536 - 2 ^ (16 - b) = m at hm
  have e : bits .andNot .i64 (a : Int) (m : Int) = IntKind.i64.wrap ((BitVec.ofInt 64 (a : Int) &&& ~~~ BitVec.ofInt 64 (m : Int)).toNat : Int) := rfl
  have h1 : (BitVec.ofInt 64 (a : Int) &&& ~~~ BitVec.ofInt 64 (m : Int)).toNat = a &&& (2 ^ 64 - (m + 1)) := by
    rw [BitVec.toNat_and, BitVec.toNat_not, ofInt_i64 a (by omega), ofInt_i64 m (by omega)]
    congr 1
    omega
  have h2 : a &&& (2 ^ 64 - (m + 1)) ≤ a := Nat.and_le_left
  rw [e, h1, IntKind.wrap_i64]
  have h3 : a &&& (2 ^ 64 - (m + 1)) = a % 2 ^ (16 - b) := by
    apply Nat.eq_of_testBit_eq
    intro i
    rw [Nat.testBit_and, Nat.testBit_mod_two_pow]
    rcases Nat.lt_or_ge i 16 with hi | hi
    · rw [Nat.testBit_two_pow_sub_succ (by omega), ← hmm]
      have key : ∀ b : Fin 17, ∀ i : Fin 16, (decide (i.val < 64) && !(65536 - 2 ^ (16 - b.val)).testBit i.val) = decide (i.val < 16 - b.val) := by decide
      have := key ⟨b, by omega⟩ ⟨i, hi⟩
      simp only at this
      rw [this, Bool.and_comm]
    · have : a.testBit i = false := Nat.testBit_lt_two_pow (Nat.lt_of_le_of_lt ha (Nat.lt_of_lt_of_le (show 65535 < 2 ^ 16 by omega) (Nat.pow_le_pow_right (by omega) hi)))
      simp [this]
  rw [h3]
  have := Nat.mod_le a (2 ^ (16 - b))
  omega
set_option maxHeartbeats 1000000 in
theorem indexMx_T (l : List Mx) (f : FuncId) (caps : List AV) (p : Mx → Bool) (hl : l.length < 9223372036854775807) (hp : ∀ x ∈ l, Fun Tryz.prog f (.agg ((encMx x).map .fv) :: caps) (.fv (.bool (p x)))) :
    Fun Tryz.prog 183 [.fv (slOf encMx l), .fn f caps] (.fv (.int .i64 (idxB p l))) := by
  refine Fun.body tbl_ok Tryz.func183 rfl (by kernel_rfl) rfl rfl rfl ?_
  repeat' (first | refine X.loc ?_ | refine nx ?_ | refine cb ?_ ?_ | (refine cc ?_ ?_ <;> intro hcond) | refine rb ?_ | refine nd ?_ | refine dk ?_ | fail)
  refine WP.loop (ι := Nat) (fun k => ⟨[(0, .fv (slOf encMx l)), (1, .fn f caps), (7, .fv (.int .i64 l.length)), (8, .fv (.int .i64 k))], []⟩) (fun k => k ≤ l.length ∧ ∀ x ∈ l.take k, p x = false) (fun k => l.length - k) 0 ⟨by omega, by simp⟩ ?_ ?_
  · exact lq
  rintro k ⟨hk, hd⟩
  try dsimp only
  by_cases hlt : k < l.length
  case neg =>
    repeat' (first | refine X.loc ?_ | refine nx ?_ | refine cb ?_ ?_ | (refine cc ?_ ?_ <;> intro hcond) | refine rb ?_ | refine nd ?_ | refine dk ?_ | fail)
    · exfalso
      simp at hcond
      omega
    · refine .f1 (.inl rfl) rfl ?_
      rw [idxB_none p l (by rw [List.take_of_length_le (by omega)] at hd; exact hd)]
  case pos =>
    obtain ⟨x, hx⟩ : ∃ x, l[k]? = some x := ⟨_, List.getElem?_eq_getElem hlt⟩
    have hf := hp x (List.mem_of_getElem? hx)
    repeat' (first | (apply X.loE; (· exact aR); (· first | (exact .eff (.idxS rfl rfl rfl encMx_len hx)) | exact .callL rfl rfl rfl (hf) rfl | exact bl (hf))) | refine X.loc ?_ | refine nx ?_ | refine cb ?_ ?_ | (refine cc ?_ ?_ <;> intro hcond) | (apply X.gsE; (· exact aR); (· exact aV); (· exact aW); (· intro hc; first | (exact .eff (.idxS rfl rfl rfl encMx_len hx)) | exact .callG rfl rfl rfl (hf) rfl | exact bg (hf)); (· exact aR)) | refine rb ?_ | refine nd ?_ | refine dk ?_ | fail)
    · refine .f1 (.inl rfl) rfl ?_
      rw [idxB_take p l k hd (fun y hy => by rw [hx] at hy; obtain rfl := Option.some.inj hy; exact hcond) hlt]
    · refine ⟨k + 1, ⟨by omega, ?_⟩, by omega, ?_⟩
      · rw [List.take_add_one, hx]
        intro y hy
        simp at hy
        rcases hy with hy | rfl
        · exact hd y hy
        · exact hcond
      · exact lq
    · exfalso
      simp at hcond
      omega
theorem containsMx_T (l : List Mx) (f : FuncId) (caps : List AV) (p : Mx → Bool) (hl : l.length < 9223372036854775807) (hp : ∀ x ∈ l, Fun Tryz.prog f (.agg ((encMx x).map .fv) :: caps) (.fv (.bool (p x)))) :
    Fun Tryz.prog 173 [.fv (slOf encMx l), .fn f caps] (.fv (.bool (l.any p))) := by
  refine Fun.body tbl_ok Tryz.func173 rfl (by kernel_rfl) rfl rfl rfl ?_
  repeat' (first | (apply X.loE; (· exact aR); (· first | exact .callL rfl rfl rfl (indexMx_T l f caps p hl hp) rfl | exact bl (indexMx_T l f caps p hl hp))) | refine X.loc ?_ | refine nx ?_ | refine cb ?_ ?_ | (refine cc ?_ ?_ <;> intro hcond) | (apply X.gsE; (· exact aR); (· exact aV); (· exact aW); (· intro hc; first | exact .callG rfl rfl rfl (indexMx_T l f caps p hl hp) rfl | exact bg (indexMx_T l f caps p hl hp)); (· exact aR)) | refine rb ?_ | refine nd ?_ | refine dk ?_ | fail)
  refine .f1 (.inl rfl) rfl ?_
  have := idxB_any p l
  cases h : l.any p
  · have := this.2 h
    simp
    omega
  · have h2 : ¬ idxB p l < 0 := fun h3 => by rw [this.1 h3] at h; cases h
    simp
    omega
theorem readPf {p : Pk} {i : Int} (h : 0 ≤ i ∧ i ≤ 9) : readA tbl 3 0 ((((encPk p).drop 0).drop (i.toNat * 1)).map .fv) = some (.fv (.int .i64 (getP p i.toNat))) := by
  obtain ⟨k, rfl⟩ := Int.eq_ofNat_of_zero_le h.1
  rw [Int.toNat_natCast]
  match k, h with
  | 0, _ | 1, _ | 2, _ | 3, _ | 4, _ | 5, _ | 6, _ | 7, _ | 8, _ | 9, _ => rfl
  | k + 10, h => omega
theorem readPo {p : Pk} {i : Int} (h : 0 ≤ i ∧ i ≤ 9) : readA tbl 3 (0 + 0 + i.toNat * 1) ((encPk p).map .fv) = some (.fv (.int .i64 (getP p i.toNat))) := by
  obtain ⟨k, rfl⟩ := Int.eq_ofNat_of_zero_le h.1
  rw [Int.toNat_natCast]
  match k, h with
  | 0, _ | 1, _ | 2, _ | 3, _ | 4, _ | 5, _ | 6, _ | 7, _ | 8, _ | 9, _ => rfl
  | k + 10, h => omega
theorem setPo {p : Pk} {i v : Int} (h : 0 ≤ i ∧ i ≤ 9) : setC ((encPk p).map .fv) (0 + 0 + i.toNat * 1) [.fv (.int .i64 v)] = some ((encPk (setP p i.toNat v)).map .fv) := by
  obtain ⟨k, rfl⟩ := Int.eq_ofNat_of_zero_le h.1
  rw [Int.toNat_natCast]
  match k, h with
  | 0, _ | 1, _ | 2, _ | 3, _ | 4, _ | 5, _ | 6, _ | 7, _ | 8, _ | 9, _ => rfl
  | k + 10, h => omega
theorem and_maskd {n m : Int} (hn : word n = true) (hm : word m = true) : bits .and .i64 n m = maskd n m := by
  have hn := word_iff.1 hn
  have hm := word_iff.1 hm
  obtain ⟨n, rfl⟩ := Int.eq_ofNat_of_zero_le hn.1
  obtain ⟨m, rfl⟩ := Int.eq_ofNat_of_zero_le hm.1
  have := i64_and_nat n m (by omega) (by omega)
  rw [this]
  rfl
theorem mxOk_at {m : Mx} (h : mxOk m = true) : (0 ≤ m.field ∧ m.field ≤ 9) ∧ word m.mask = true ∧ word m.value = true := by
  simp only [mxOk, Bool.and_eq_true] at h
  exact ⟨inR_iff.1 h.1.1.1, h.1.1.2, h.1.2⟩
theorem fits1_T (p : Pk) (m : Mx) (hp : p.Wd) (hm : mxOk m = true) : Fun Tryz.prog 174 [.agg ((encMx m).map .fv), .fptr (encPk p)] (.fv (.bool (maskd (getP p m.field.toNat) m.mask != m.value))) := by
  obtain ⟨h1, h2, h3⟩ := mxOk_at hm
  have h4 := h1.1
  have h5 := h1.2
  refine Fun.body tbl_ok Tryz.func174 rfl (by kernel_rfl) rfl rfl rfl ?_
  repeat' (first | (apply X.loE; (· exact aR); (· first | (exact .eff (.loadF rfl (readPf h1))))) | refine X.loc ?_ | refine nx ?_ | refine cb ?_ ?_ | (refine cc ?_ ?_ <;> intro hcond) | (apply X.gsE; (· exact aR); (· exact aV); (· exact aW); (· intro hc; first | (exact .eff (.loadF rfl (readPf h1)))); (· exact aR)) | refine rb ?_ | refine nd ?_ | refine dk ?_ | fail)
  refine .f1 (.inl rfl) rfl ?_
  rw [and_maskd (hp _ (by omega)) h2]
theorem fits_T (f : Fl) (p : Pk) (hp : p.Wd) (hm : f.ms.all mxOk = true) (hl : f.ms.length < 9223372036854775807) : Fun Tryz.prog 157 [.agg ((encFl f).map .fv), .agg ((encPk p).map .fv)] (.fv (.bool (fitsB p f))) := by
  refine Fun.body tbl_ok Tryz.func157 rfl (by kernel_rfl) rfl rfl rfl ?_
  repeat' (first | (apply X.loE; (· exact aR); (· first | exact .callL rfl rfl rfl (containsMx_T f.ms _ [.fptr (encPk p)] (fun m => maskd (getP p m.field.toNat) m.mask != m.value) hl (fun m h => fits1_T p m hp (List.all_eq_true.1 hm m h))) rfl | exact bl (containsMx_T f.ms _ [.fptr (encPk p)] (fun m => maskd (getP p m.field.toNat) m.mask != m.value) hl (fun m h => fits1_T p m hp (List.all_eq_true.1 hm m h))))) | refine X.loc ?_ | refine nx ?_ | refine cb ?_ ?_ | (refine cc ?_ ?_ <;> intro hcond) | (apply X.gsE; (· exact aR); (· exact aV); (· exact aW); (· intro hc; first | exact .callG rfl rfl rfl (containsMx_T f.ms _ [.fptr (encPk p)] (fun m => maskd (getP p m.field.toNat) m.mask != m.value) hl (fun m h => fits1_T p m hp (List.all_eq_true.1 hm m h))) rfl | exact bg (containsMx_T f.ms _ [.fptr (encPk p)] (fun m => maskd (getP p m.field.toNat) m.mask != m.value) hl (fun m h => fits1_T p m hp (List.all_eq_true.1 hm m h)))); (· exact aR)) | refine rb ?_ | refine nd ?_ | refine dk ?_ | fail)
  refine .f1 (.inl rfl) rfl ?_
  unfold fitsB
  rw [List.not_any_eq_all_not]
  simp [bne]
theorem Eff.idxD {α : Type} {enc : α → List FV} {T : Tbl} {ρ : Operand → AV} {H : Own} {d t : Nat} {x y : Operand} {l : List α} {e s b : Nat} {k : IntKind} {i : Int} (d0 : α) (h1 : ρ x = .fv (slOf enc l)) (h2 : ρ y = .fv (.int k i)) (h3 : lk T.sli t = some (e, s, b)) (hs : ∀ x, (enc x).length = s) (hi : 0 ≤ i ∧ i < l.length) :
    Eff T ρ H d (.indexAddr t x y) (.fptr (enc (l.getD i.toNat d0))) [] := by
  obtain ⟨n, rfl⟩ := Int.eq_ofNat_of_zero_le hi.1
  have hlt : n < l.length := by omega
  refine Eff.idxS h1 h2 h3 hs (u := l.getD n d0) ?_
  simp [List.getElem?_eq_getElem hlt]
def fl0 : Fl := ⟨0, 0, [], []⟩
theorem prioAt_getD {l : List Fl} {i : Int} (h : 0 ≤ i ∧ i < l.length) : prioAt l i = (l.getD i.toNat fl0).prio := by
  obtain ⟨n, rfl⟩ := Int.eq_ofNat_of_zero_le h.1
  have hlt : n < l.length := by omega
  unfold prioAt
  simp [List.getElem?_eq_getElem hlt]
theorem bst_bd {l : List Fl} {q : Fl → Bool} {k : Nat} (hk : k ≤ l.length) : -1 ≤ bst l q k ∧ (0 ≤ bst l q k → 0 ≤ bst l q k ∧ bst l q k < l.length) := by
  rcases bst_is l q k hk with ⟨h1, _⟩ | ⟨n, g, h1, _, h2, _⟩
  · omega
  · omega
set_option maxHeartbeats 2000000 in
theorem first_T (l : List Fl) (t : Int) (p : Pk) (hp : p.Wd) (hm : ∀ f ∈ l, f.ms.all mxOk = true ∧ f.ms.length < 9223372036854775807) (hl : l.length < 9223372036854775807) : Fun Tryz.prog 140 [.fv (slOf encFl l), .fv (.int .i64 t), .agg ((encPk p).map .fv)] (.fv (.int .i64 (bestOf l t p))) := by
  refine Fun.body tbl_ok Tryz.func140 rfl (by kernel_rfl) rfl rfl rfl ?_
  repeat' (first | refine X.loc ?_ | refine nx ?_ | refine cb ?_ ?_ | (refine cc ?_ ?_ <;> intro hcond) | refine rb ?_ | refine nd ?_ | refine dk ?_ | fail)
  refine WP.loop (ι := Nat) (fun k => ⟨[(0, .fv (slOf encFl l)), (1, .fv (.int .i64 t)), (5, .optr 5 0), (7, .fv (.int .i64 (bst l (fun f => f.table == t && fitsB p f) k))), (10, .fv (slOf encFl l)), (11, .fv (.int .i64 l.length)), (12, .fv (.int .i64 k))], [(5, .box 131 ((encPk p).map .fv))]⟩)
    (fun k => k ≤ l.length) (fun k => l.length - k) 0 (by omega) ?_ ?_
  · exact lq
  rintro k hk
  try dsimp only
  obtain ⟨hb1, hb2⟩ := bst_bd (q := fun f => f.table == t && fitsB p f) hk
  by_cases hlt : k < l.length
  case neg =>
    repeat' (first | refine X.loc ?_ | refine nx ?_ | refine cb ?_ ?_ | (refine cc ?_ ?_ <;> intro hcond) | refine rb ?_ | refine nd ?_ | refine dk ?_ | fail)
    · exfalso
      simp at hcond
      omega
    · refine .f1 (.inl rfl) rfl ?_
      have : k = l.length := by omega
      rw [this]
      rfl
  case pos =>
    obtain ⟨f, hf⟩ : ∃ f, l[k]? = some f := ⟨_, List.getElem?_eq_getElem hlt⟩
    have hfm := hm f (List.mem_of_getElem? hf)
    have hst : ∀ b, (((f.table == t && fitsB p f) && (decide (bst l (fun f => f.table == t && fitsB p f) k < 0) || decide (f.prio > (l.getD (bst l (fun f => f.table == t && fitsB p f) k).toNat fl0).prio))) = b) → bst l (fun f => f.table == t && fitsB p f) (k + 1) = if b = true then (k : Int) else bst l (fun f => f.table == t && fitsB p f) k := by
      rintro b rfl
      simp only [bst, hf]
      generalize bst l (fun f => f.table == t && fitsB p f) k = i at hb1 hb2 ⊢
      rcases Int.lt_or_le i 0 with h | h
      · simp [h]
      · rw [prioAt_getD (hb2 h)]
    generalize hbb : bst l (fun f => f.table == t && fitsB p f) k = i at hb1 hb2 hst ⊢
    repeat' (first | (apply X.loE; (· exact aR); (· first | (exact .eff (.idxS rfl rfl rfl encFl_len hf)) | (exact .eff (.idxD fl0 rfl rfl rfl encFl_len (hb2 (by have := hc; simp at this; omega)))) | exact .callL rfl rfl rfl (fits_T f p hp hfm.1 hfm.2) rfl | exact bl (fits_T f p hp hfm.1 hfm.2))) | refine X.loc ?_ | refine nx ?_ | refine cb ?_ ?_ | (refine cc ?_ ?_ <;> intro hcond) | (apply X.gsE; (· exact aR); (· exact aV); (· exact aW); (· intro hc; first | (exact .eff (.idxS rfl rfl rfl encFl_len hf)) | (exact .eff (.idxD fl0 rfl rfl rfl encFl_len (hb2 (by have := hc; simp at this; omega)))) | exact .callG rfl rfl rfl (fits_T f p hp hfm.1 hfm.2) rfl | exact bg (fits_T f p hp hfm.1 hfm.2)); (· exact aR)) | refine rb ?_ | refine nd ?_ | refine dk ?_ | fail)
    · refine ⟨k + 1, by omega, by omega, ?_⟩
      refine St.le_of ?_ ?_ <;> (repeat' (first | exact trivial | refine ⟨⟨_, rfl, .refl _⟩, ?_⟩ | refine ⟨⟨_, rfl, .any _⟩, ?_⟩ | refine ⟨⟨_, rfl, .of_eq ?_⟩, ?_⟩ | refine ⟨⟨_, rfl, fun _ _ _ _ h => h⟩, ?_⟩ | fail))
      rw [hst _ hcond]
      rfl
    · refine ⟨k + 1, by omega, by omega, ?_⟩
      refine St.le_of ?_ ?_ <;> (repeat' (first | exact trivial | refine ⟨⟨_, rfl, .refl _⟩, ?_⟩ | refine ⟨⟨_, rfl, .any _⟩, ?_⟩ | refine ⟨⟨_, rfl, .of_eq ?_⟩, ?_⟩ | refine ⟨⟨_, rfl, fun _ _ _ _ h => h⟩, ?_⟩ | fail))
      rw [hst _ hcond]
      rfl
    · exfalso
      simp at hcond
      omega
def wdFrom (p : Pk) (k : Nat) : Bool := (p.fields.drop k).all word
theorem wdFrom_at {p : Pk} {k : Nat} (h : k < 10) : wdFrom p k = (word (getP p k) && wdFrom p (k + 1)) := by
  match k, h with
  | 0, _ | 1, _ | 2, _ | 3, _ | 4, _ | 5, _ | 6, _ | 7, _ | 8, _ | 9, _ => rfl
  | k + 10, h => omega
theorem getPv {p : Pk} {k : Nat} (h : k < 10) : (((encPk p).map AV.fv).take 10)[(k : Int).toNat]? = some (.fv (.int .i64 (getP p k))) := by
  rw [Int.toNat_natCast]
  match k, h with
  | 0, _ | 1, _ | 2, _ | 3, _ | 4, _ | 5, _ | 6, _ | 7, _ | 8, _ | 9, _ => rfl
  | k + 10, h => omega
theorem packetFault_wd (p : Pk) : packetFault p = if wdFrom p 0 = false then 2 else if p.body.size > 40 then 1 else 0 := by
  unfold packetFault wdFrom
  rw [List.drop_zero]
  cases p.fields.all word <;> simp
set_option maxHeartbeats 1000000 in
theorem checkPacket_T (p : Pk) : Fun Tryz.prog 103 [.agg ((encPk p).map .fv)] (.fv (.int .i64 (packetFault p))) := by
  have hpf := packetFault_wd p
  refine Fun.body tbl_ok Tryz.func103 rfl (by kernel_rfl) rfl rfl rfl ?_
  repeat' (first | refine X.loc ?_ | refine nx ?_ | refine cb ?_ ?_ | (refine cc ?_ ?_ <;> intro hcond) | refine rb ?_ | refine nd ?_ | refine dk ?_ | fail)
  refine WP.loop (ι := Nat) (fun k => ⟨[(1, .optr 1 0), (6, .agg (((encPk p).map .fv).take 10)), (7, .fv (.int .i64 k))], [(1, .box 131 ((encPk p).map .fv))]⟩) (fun k => k ≤ 10 ∧ wdFrom p 0 = wdFrom p k) (fun k => 10 - k) 0 ⟨by omega, rfl⟩ ?_ ?_
  · exact lq
  rintro k ⟨hk, hd⟩
  try dsimp only
  by_cases hlt : k < 10
  case neg =>
    have hek : k = 10 := by omega
    subst hek
    have hw : wdFrom p 0 = true := hd
    repeat' (first | refine X.loc ?_ | refine nx ?_ | refine cb ?_ ?_ | (refine cc ?_ ?_ <;> intro hcond) | refine rb ?_ | refine nd ?_ | refine dk ?_ | fail)
    · refine .f1 (.inl rfl) rfl ?_
      simp at hcond
      rw [hpf, hw, if_neg (by simp), if_pos (by omega)]
    · refine .f1 (.inl rfl) rfl ?_
      simp at hcond
      rw [hpf, hw, if_neg (by simp), if_neg (by omega)]
  case pos =>
    have hat := wdFrom_at (p := p) hlt
    repeat' (first | (apply X.loE; (· exact aR); (· first | (exact .eff (.idxV rfl rfl rfl rfl rfl (by omega) (by omega) (getPv hlt))) | exact .callL rfl rfl rfl (fword_T _) rfl | exact bl (fword_T _))) | refine X.loc ?_ | refine nx ?_ | refine cb ?_ ?_ | (refine cc ?_ ?_ <;> intro hcond) | (apply X.gsE; (· exact aR); (· exact aV); (· exact aW); (· intro hc; first | (exact .eff (.idxV rfl rfl rfl rfl rfl (by omega) (by omega) (getPv hlt))) | exact .callG rfl rfl rfl (fword_T _) rfl | exact bg (fword_T _)); (· exact aR)) | refine rb ?_ | refine nd ?_ | refine dk ?_ | fail)
    · refine .f1 (.inl rfl) rfl ?_
      have : wdFrom p 0 = false := by rw [hd, hat]; simp at hcond; rw [hcond]; rfl
      rw [hpf, if_pos this]
    · refine ⟨k + 1, ⟨by omega, ?_⟩, by omega, ?_⟩
      · simp at hcond
        rw [hd, hat, hcond]
        rfl
      · exact lq
    all_goals
      exfalso
      rename_i h
      simp at h
      omega
theorem word_max {a : Int} (h : word a = true) : word (if 0 > a - 1 then 0 else a - 1) = true := by
  have := word_iff.1 h
  rw [word_iff]
  split <;> omega
theorem wd_of {p : Pk} (h : packetFault p = 0) : p.Wd := by
  unfold packetFault at h
  split at h
  · rename_i h1
    simp only [Pk.fields, List.all_cons, List.all_nil, Bool.and_eq_true] at h1
    intro i hi
    match i, hi with
    | 0, _ => exact h1.1
    | 1, _ => exact h1.2.1
    | 2, _ => exact h1.2.2.1
    | 3, _ => exact h1.2.2.2.1
    | 4, _ => exact h1.2.2.2.2.1
    | 5, _ => exact h1.2.2.2.2.2.1
    | 6, _ => exact h1.2.2.2.2.2.2.1
    | 7, _ => exact h1.2.2.2.2.2.2.2.1
    | 8, _ => exact h1.2.2.2.2.2.2.2.2.1
    | 9, _ => exact h1.2.2.2.2.2.2.2.2.2.1
    | k + 10, h => omega
  · omega
def ranFault (l : List Fl) (p : Pk) : Int := if flowsFault l ≠ 0 then flowsFault l else packetFault p
def ranR (l : List Fl) (p : Pk) : List Snt := if ranFault l p ≠ 0 then [] else ranOf l p
theorem stepD_keeps {s : Rs} {d : Dx} {t : Int} {b : Bool} (hp : s.p.Wd) (h : dxMay d t b = true) : (stepD s d).p.Wd ∧ (stepD s d).out.length ≤ s.out.length + 1 ∧ ((stepD s d).table = s.table ∨ (t < (stepD s d).table ∧ (stepD s d).table ≤ 7)) := by
  obtain ⟨h1, h2, h3, h4, _⟩ := dxMay_use h
  unfold stepD
  split
  · exact ⟨setP_wd hp _ (h1 (by assumption)).2, by dsimp only; omega, .inl rfl⟩
  · split
    · exact ⟨setP_wd hp _ (hp _ (by have := (h2 (by assumption)).2; omega)), by dsimp only; omega, .inl rfl⟩
    · split
      · exact ⟨setP_wd hp _ (word_max (hp _ (by have := h3 (by assumption); omega))), by dsimp only; omega, .inl rfl⟩
      · split
        · exact ⟨hp, by dsimp only; omega, .inr (h4 (by assumption))⟩
        · exact ⟨hp, by simp, .inl rfl⟩
def runP (l : List Fl) (p : Pk) (s : Rs) : Prop := s.p.Wd ∧ s.out.length ≤ 1000 ∧ ((s.table = -1 ∧ ranOf l p = s.out) ∨ (0 ≤ s.table ∧ s.table ≤ 7 ∧ s.out.length ≤ 100 * s.table.toNat ∧ runN l 8 ⟨p, 0, []⟩ = runN l (8 - s.table.toNat) s))
set_option maxHeartbeats 4000000 in
theorem flowRun_T (l : List Fl) (p : Pk) : Fun Tryz.prog 104 [.fv (slOf encFl l), .agg ((encPk p).map .fv)] (.tup [.fv (slOf encSnt (ranR l p)), .fv (.int .i64 (ranFault l p))]) := by
  have hc := flowCheck_T l
  have hk := checkPacket_T p
  refine Fun.body tbl_ok Tryz.func104 rfl (by kernel_rfl) rfl rfl rfl ?_
  repeat' (first | (apply X.loE; (· exact aR); (· first | exact .callL rfl rfl rfl (by first | exact hc | exact hk) rfl | exact bl (hc) | exact bl (hk))) | refine X.loc ?_ | refine nx ?_ | refine cb ?_ ?_ | (refine cc ?_ ?_ <;> intro hcond) | (apply X.gsE; (· exact aR); (· exact aV); (· exact aW); (· intro hc; first | exact .callG rfl rfl rfl (by first | exact hc | exact hk) rfl | exact bg (hc) | exact bg (hk)); (· exact aR)) | refine rb ?_ | refine nd ?_ | refine dk ?_ | fail)
  · refine .le (s' := ⟨[(4, .fv (slOf encSnt [])), (5, .fv (.int .i64 (flowsFault l)))], []⟩) ?_ (.fun (.inl rfl) rfl ?_)
    · exact tq [] []
    · have h0 : flowsFault l ≠ 0 := by simpa using hcond
      have h1 : ranFault l p = flowsFault l := if_pos h0
      rw [ranR, h1, if_pos h0]
      rfl
  · refine .le (s' := ⟨[(4, .fv (slOf encSnt [])), (5, .fv (.int .i64 (packetFault p)))], []⟩) ?_ (.fun (.inl rfl) rfl ?_)
    · exact tq [] []
    · rename_i h2
      have h0 : packetFault p ≠ 0 := by simpa using hcond
      have h1 : ranFault l p = packetFault p := if_neg (by simpa using h2)
      rw [ranR, h1, if_pos h0]
      rfl
  have hff : flowsFault l = 0 := by rename_i h2; simpa using h2
  have hpf : packetFault p = 0 := by simpa using hcond
  have hrf : ranFault l p = 0 := by unfold ranFault; rw [if_neg (by omega)]; exact hpf
  have hrr : ranR l p = ranOf l p := by unfold ranR; rw [if_neg (by omega)]
  obtain ⟨hl5, hfm⟩ := flowsMay hff
  have hwd := wd_of hpf
  clear hcond
  refine WP.loop (ι := Rs) (fun s => ⟨[(0, .fv (slOf encFl l)), (3, .optr 3 0), (8, .osl 900), (9, .fv (.int .i64 s.table))], [(3, .box 131 ((encPk s.p).map .fv)), (900, .row 160 13 s.out.length ((s.out.flatMap encSnt).map .fv))]⟩)
    (fun s => runP l p s) (fun s => if s.table < 0 then 0 else (8 - s.table).toNat) ⟨p, 0, []⟩ ⟨hwd, by simp, .inr ⟨by simp, by simp, by simp, rfl⟩⟩ ?_ ?_
  · exact tq [(900, .nil)] []
  rintro s ⟨hsw, hso, hs⟩
  try dsimp only
  by_cases ht : s.table < 0
  case pos =>
    repeat' (first | refine X.loc ?_ | refine nx ?_ | refine cb ?_ ?_ | (refine cc ?_ ?_ <;> intro hcond) | refine rb ?_ | refine nd ?_ | refine dk ?_ | fail)
    · exfalso
      simp at hcond
      omega
    · refine .le (s' := ⟨[(4, .fv (slOf encSnt s.out)), (5, .fv (.int .i64 0))], []⟩) ?_ (.fun (.inl rfl) rfl ?_)
      · exact tq [] [900]
      · rcases hs with ⟨_, h⟩ | ⟨h, _⟩
        · rw [hrr, hrf, h]
          rfl
        · omega
  case neg =>
    obtain ⟨h0, h7, ho, hrun⟩ : 0 ≤ s.table ∧ s.table ≤ 7 ∧ s.out.length ≤ 100 * s.table.toNat ∧ runN l 8 ⟨p, 0, []⟩ = runN l (8 - s.table.toNat) s := by
      rcases hs with ⟨h, _⟩ | h
      · omega
      · exact h
    have hfirst := first_T l s.table s.p hsw (fun f hf => ⟨(hfm f hf).mok, by have := (hfm f hf).ms; omega⟩) (by omega)
    have hstep : runN l (8 - s.table.toNat) s = runN l (7 - s.table.toNat) (execT l s) := by
      rw [show 8 - s.table.toNat = (7 - s.table.toNat) + 1 from by omega, runN, if_pos (by omega)]
    rcases Int.lt_or_le (bestOf l s.table s.p) 0 with hneg | hpos
    · have hex : execT l s = { s with table := -1 } := by
        unfold execT
        split
        · rw [if_pos hneg]
        · rfl
      rw [hex, runN_done l (7 - s.table.toNat) { s with table := -1 } (by show (-1 : Int) < 0; omega) (by omega)] at hstep
      have hend : ranOf l p = s.out := by unfold ranOf; rw [hrun, hstep]
      repeat' (first | (apply X.loE; (· exact aR); (· first | exact .callL rfl rfl rfl (hfirst) rfl | exact bl (hfirst))) | refine X.loc ?_ | refine nx ?_ | refine cb ?_ ?_ | (refine cc ?_ ?_ <;> intro hcond) | (apply X.gsE; (· exact aR); (· exact aV); (· exact aW); (· intro hc; first | exact .callG rfl rfl rfl (hfirst) rfl | exact bg (hfirst)); (· exact aR)) | refine rb ?_ | refine nd ?_ | refine dk ?_ | fail)
      · refine .le (s' := ⟨[(4, .fv (slOf encSnt s.out)), (5, .fv (.int .i64 0))], []⟩) ?_ (.fun (.inl rfl) rfl ?_)
        · exact tq [] [900]
        · rw [hrr, hrf, hend]
          rfl
      · exfalso
        simp at hcond
        omega
      · exfalso
        simp at hcond
        omega
    · obtain ⟨k, f, hk', _, _, hx, hqf, _⟩ : ∃ k g, bst l (fun f => f.table == s.table && fitsB s.p f) l.length = ((k : Nat) : Int) ∧ 0 ≤ k ∧ k < l.length ∧ l[k]? = some g ∧ (g.table == s.table && fitsB s.p g) = true ∧ True := by
        rcases bst_is l (fun f => f.table == s.table && fitsB s.p f) l.length (Nat.le_refl _) with ⟨h, _⟩ | ⟨k, g, h1, h2, h3, h4, h5, _⟩
        · exfalso
          have : bestOf l s.table s.p = -1 := h
          omega
        · exact ⟨k, g, h1, h2, h3, h4, h5, trivial⟩
      have hkk : bestOf l s.table s.p = (k : Int) := hk'
      rw [hkk] at hfirst
      have hfu := hfm f (List.mem_of_getElem? hx)
      have hft : f.table = s.table := by simp at hqf; exact hqf.1
      have hex : execT l s = f.ds.foldl stepD { s with table := -1 } := by
        unfold execT
        rw [hkk, Int.toNat_natCast, hx]
        dsimp only
        rw [if_neg (by omega)]
      repeat' (first | (apply X.loE; (· exact aR); (· first | (exact .eff (.idxS rfl rfl rfl encFl_len hx)) | exact .callL rfl rfl rfl (hfirst) rfl | exact bl (hfirst))) | refine X.loc ?_ | refine nx ?_ | refine cb ?_ ?_ | (refine cc ?_ ?_ <;> intro hcond) | (apply X.gsE; (· exact aR); (· exact aV); (· exact aW); (· intro hc; first | (exact .eff (.idxS rfl rfl rfl encFl_len hx)) | exact .callG rfl rfl rfl (hfirst) rfl | exact bg (hfirst)); (· exact aR)) | refine rb ?_ | refine nd ?_ | refine dk ?_ | fail)
      rotate_left
      · exfalso
        simp at hcond
        omega
      have hds := hfu.ds
      refine WP.loop (ι := Nat × Rs) (fun q => ⟨[(0, .fv (slOf encFl l)), (3, .optr 3 0), (8, .osl 900), (9, .fv (.int .i64 q.2.table)), (35, .fv (slOf encDx f.ds)), (36, .fv (.int .i64 f.ds.length)), (37, .fv (.int .i64 q.1))], [(3, .box 131 ((encPk q.2.p).map .fv)), (900, .row 160 13 q.2.out.length ((q.2.out.flatMap encSnt).map .fv))]⟩)
        (fun q => q.1 ≤ f.ds.length ∧ (f.ds.drop q.1).foldl stepD q.2 = execT l s ∧ q.2.p.Wd ∧ q.2.out.length ≤ s.out.length + q.1 ∧ (q.2.table = -1 ∨ (s.table < q.2.table ∧ q.2.table ≤ 7))) (fun q => f.ds.length - q.1) (0, { s with table := -1 }) ⟨by omega, hex.symm, hsw, by dsimp only; omega, .inl rfl⟩ ?_ ?_
      · exact tq [] []
      rintro ⟨j, r⟩ ⟨hj, hfold, hrw, hro, hrt⟩
      dsimp only at hj hfold hrw hro hrt ⊢
      by_cases hjlt : j < f.ds.length
      case neg =>
        have hr : r = execT l s := by rw [List.drop_of_length_le (by omega)] at hfold; exact hfold
        repeat' (first | refine X.loc ?_ | refine nx ?_ | refine cb ?_ ?_ | (refine cc ?_ ?_ <;> intro hcond) | refine rb ?_ | refine nd ?_ | refine dk ?_ | fail)
        · exfalso
          simp at hcond
          omega
        · refine ⟨r, ⟨hrw, by omega, ?_⟩, ?_, ?_⟩
          · rcases hrt with h | h
            · left
              refine ⟨h, ?_⟩
              unfold ranOf
              rw [hrun, hstep, ← hr, runN_done _ _ _ (by omega) (by omega)]
            · right
              refine ⟨by omega, h.2, by omega, ?_⟩
              rw [hrun, hstep, ← hr]
              have := runN_skip l (7 - r.table.toNat) (6 - s.table.toNat) r (by omega) (by omega)
              rw [show 6 - s.table.toNat + 1 = 7 - s.table.toNat from by omega, show 7 - r.table.toNat + 1 = 8 - r.table.toNat from by omega] at this
              exact this
          · rw [if_neg ht]
            split <;> omega
          · exact tq [] []
      case pos =>
        obtain ⟨d, hd⟩ : ∃ d, f.ds[j]? = some d := ⟨_, List.getElem?_eq_getElem hjlt⟩
        obtain ⟨b, hmay⟩ := dxOk_mem hfu.dok (List.mem_of_getElem? hd)
        obtain ⟨u1, u2, u3, u4, u5⟩ := dxMay_use hmay
        obtain ⟨v1, v2, v3⟩ := stepD_keeps (s := r) hrw hmay
        have hnext : (f.ds.drop (j + 1)).foldl stepD (stepD r d) = execT l s := by
          rw [← hfold, List.drop_eq_getElem_cons hjlt, (List.getElem?_eq_some_iff.1 hd).2]
          rfl
        have hpq : (j + 1 ≤ f.ds.length ∧ (f.ds.drop (j + 1)).foldl stepD (stepD r d) = execT l s ∧ (stepD r d).p.Wd ∧ (stepD r d).out.length ≤ s.out.length + (j + 1) ∧ ((stepD r d).table = -1 ∨ (s.table < (stepD r d).table ∧ (stepD r d).table ≤ 7))) := by
          refine ⟨by omega, hnext, v1, by omega, ?_⟩
          rcases v3 with h | h
          · rw [h]; exact hrt
          · right; omega
        obtain ⟨dk, da, dn⟩ := d
        dsimp only at u1 u2 u3 u4 u5
        rcases u5 with e | e | e | e | e | e <;> subst e
        · have ha : 0 ≤ Dx.a ⟨1, da, dn⟩ ∧ Dx.a ⟨1, da, dn⟩ ≤ 9 := (u1 rfl).1
          have ha1 := ha.1
          have ha2 := ha.2
          have hs : stepD r ⟨1, da, dn⟩ = { r with p := setP r.p da.toNat dn } := rfl
          rw [hs] at hpq
          repeat' (first | (apply X.loE; (· exact aR); (· first | (exact .eff (.idxS rfl rfl rfl encDx_len hd)))) | refine X.loc ?_ | (apply X.stBE; (· exact aS); (· exact (setPo ha)); (· exact aE)) | refine nx ?_ | refine cb ?_ ?_ | (refine cc ?_ ?_ <;> intro hcond) | (apply X.gsE; (· exact aR); (· exact aV); (· exact aW); (· intro hc; first | (exact .eff (.idxS rfl rfl rfl encDx_len hd))); (· exact aR)) | refine rb ?_ | refine nd ?_ | refine dk ?_ | fail)
          · refine ⟨(j + 1, { r with p := setP r.p da.toNat dn }), hpq, by dsimp only; omega, ?_⟩
            exact tq [] []
          · exfalso
            simp at hcond
            omega
        · obtain ⟨ha, hn⟩ : (0 ≤ Dx.a ⟨2, da, dn⟩ ∧ Dx.a ⟨2, da, dn⟩ ≤ 9) ∧ (0 ≤ Dx.n ⟨2, da, dn⟩ ∧ Dx.n ⟨2, da, dn⟩ ≤ 9) := u2 rfl
          have ha1 := ha.1
          have ha2 := ha.2
          have hn1 := hn.1
          have hn2 := hn.2
          have hs : stepD r ⟨2, da, dn⟩ = { r with p := setP r.p da.toNat (getP r.p dn.toNat) } := rfl
          rw [hs] at hpq
          repeat' (first | (apply X.loE; (· exact aR); (· first | (exact .eff (.idxS rfl rfl rfl encDx_len hd)) | (exact .eff (.loadO rfl rfl (readPo hn))))) | refine X.loc ?_ | (apply X.stBE; (· exact aS); (· exact (setPo ha)); (· exact aE)) | refine nx ?_ | refine cb ?_ ?_ | (refine cc ?_ ?_ <;> intro hcond) | (apply X.gsE; (· exact aR); (· exact aV); (· exact aW); (· intro hc; first | (exact .eff (.idxS rfl rfl rfl encDx_len hd)) | (exact .eff (.loadO rfl rfl (readPo hn)))); (· exact aR)) | refine rb ?_ | refine nd ?_ | refine dk ?_ | fail)
          · refine ⟨(j + 1, { r with p := setP r.p da.toNat (getP r.p dn.toNat) }), hpq, by dsimp only; omega, ?_⟩
            exact tq [] []
          · exfalso
            simp at hcond
            omega
        · have ha : 0 ≤ Dx.a ⟨3, da, dn⟩ ∧ Dx.a ⟨3, da, dn⟩ ≤ 9 := u3 rfl
          have ha1 := ha.1
          have ha2 := ha.2
          have hww := word_iff.1 (hrw (Dx.a ⟨3, da, dn⟩).toNat (by omega))
          have hs : stepD r ⟨3, da, dn⟩ = { r with p := setP r.p da.toNat (if 0 > getP r.p da.toNat - 1 then 0 else getP r.p da.toNat - 1) } := rfl
          rw [hs] at hpq
          repeat' (first | (apply X.loE; (· exact aR); (· first | (exact .eff (.idxS rfl rfl rfl encDx_len hd)) | (exact .eff (.loadO rfl rfl (readPo ha))))) | refine X.loc ?_ | (apply X.stBE; (· exact aS); (· exact (setPo ha)); (· exact aE)) | refine nx ?_ | refine cb ?_ ?_ | (refine cc ?_ ?_ <;> intro hcond) | (apply X.gsE; (· exact aR); (· exact aV); (· exact aW); (· intro hc; first | (exact .eff (.idxS rfl rfl rfl encDx_len hd)) | (exact .eff (.loadO rfl rfl (readPo ha)))); (· exact aR)) | refine rb ?_ | refine nd ?_ | refine dk ?_ | fail)
          · refine ⟨(j + 1, { r with p := setP r.p da.toNat (if 0 > getP r.p da.toNat - 1 then 0 else getP r.p da.toNat - 1) }), hpq, by dsimp only; omega, ?_⟩
            exact tq [] []
          · exfalso
            simp at hcond
            omega
        · skip
          have hs : stepD r ⟨4, da, dn⟩ = { r with table := dn } := rfl
          rw [hs] at hpq
          repeat' (first | (apply X.loE; (· exact aR); (· first | (exact .eff (.idxS rfl rfl rfl encDx_len hd)))) | refine X.loc ?_ | refine nx ?_ | refine cb ?_ ?_ | (refine cc ?_ ?_ <;> intro hcond) | (apply X.gsE; (· exact aR); (· exact aV); (· exact aW); (· intro hc; first | (exact .eff (.idxS rfl rfl rfl encDx_len hd))); (· exact aR)) | refine rb ?_ | refine nd ?_ | refine dk ?_ | fail)
          · refine ⟨(j + 1, { r with table := dn }), hpq, by dsimp only; omega, ?_⟩
            exact tq [] []
          · exfalso
            simp at hcond
            omega
        · skip
          have hs : stepD r ⟨5, da, dn⟩ = { r with out := r.out ++ [⟨5, dn, r.p⟩] } := rfl
          rw [hs] at hpq
          repeat' (first | (apply X.loE; (· exact aR); (· first | (exact .eff (.idxS rfl rfl rfl encDx_len hd)))) | refine X.loc ?_ | refine nx ?_ | refine cb ?_ ?_ | (refine cc ?_ ?_ <;> intro hcond) | (apply X.gsE; (· exact aR); (· exact aV); (· exact aW); (· intro hc; first | (exact .eff (.idxS rfl rfl rfl encDx_len hd))); (· exact aR)) | refine rb ?_ | refine nd ?_ | refine dk ?_ | fail)
          · refine ⟨(j + 1, { r with out := r.out ++ [⟨5, dn, r.p⟩] }), hpq, by dsimp only; omega, ?_⟩
            refine St.to [(900, .id 51)] [] rfl rfl ?_ ?_ <;> (repeat' (first | exact tA | refine t1 ?_ | exact tB | refine t2 ?_ ?_ | refine t3 ?_ | refine t4 ?_ ?_ | refine .ofEq ?_ | refine OB.To.cut rfl rfl ?_ ?_ ?_ ?_ | refine OB.To.box rfl rfl ?_ | refine ⟨⟨_, rfl, ?_⟩, ?_⟩ | refine ⟨?_, ?_⟩ | fail))
            all_goals first | (simp; done) | (simp only [List.flatMap_append, List.map_append]; rfl)
          · exfalso
            simp at hcond
            omega
        · skip
          have hs : stepD r ⟨6, da, dn⟩ = { r with out := r.out ++ [⟨6, dn, r.p⟩] } := rfl
          rw [hs] at hpq
          repeat' (first | (apply X.loE; (· exact aR); (· first | (exact .eff (.idxS rfl rfl rfl encDx_len hd)))) | refine X.loc ?_ | refine nx ?_ | refine cb ?_ ?_ | (refine cc ?_ ?_ <;> intro hcond) | (apply X.gsE; (· exact aR); (· exact aV); (· exact aW); (· intro hc; first | (exact .eff (.idxS rfl rfl rfl encDx_len hd))); (· exact aR)) | refine rb ?_ | refine nd ?_ | refine dk ?_ | fail)
          · refine ⟨(j + 1, { r with out := r.out ++ [⟨6, dn, r.p⟩] }), hpq, by dsimp only; omega, ?_⟩
            refine St.to [(900, .id 51)] [] rfl rfl ?_ ?_ <;> (repeat' (first | exact tA | refine t1 ?_ | exact tB | refine t2 ?_ ?_ | refine t3 ?_ | refine t4 ?_ ?_ | refine .ofEq ?_ | refine OB.To.cut rfl rfl ?_ ?_ ?_ ?_ | refine OB.To.box rfl rfl ?_ | refine ⟨⟨_, rfl, ?_⟩, ?_⟩ | refine ⟨?_, ?_⟩ | fail))
            all_goals first | (simp; done) | (simp only [List.flatMap_append, List.map_append]; rfl)
          · exfalso
            simp at hcond
            omega
theorem i64_of_wf {n : Int} (h : (Lit.int .i64 n).wf = true) : -9223372036854775808 ≤ n ∧ n ≤ 9223372036854775807 := by
  simp only [Lit.wf, Bool.and_eq_true, decide_eq_true_eq] at h
  exact ⟨h.1, h.2⟩
def pick (n m : Int) : Int := (if n < 0 then -(n + 1) else n) % m
theorem pick_le {n m : Int} (h : 0 < m) : 0 ≤ pick n m ∧ pick n m < m := ⟨Int.emod_nonneg _ (by omega), Int.emod_lt_of_pos _ h⟩
theorem neg_wrap {n : Int} (h : -9223372036854775808 ≤ n) (h2 : n < 0) : IntKind.i64.wrap (0 - (n + 1)) = -(n + 1) := by
  rw [IntKind.wrap_i64]
  omega
theorem picked_T (n m : Int) (h1 : -9223372036854775808 ≤ n) (h2 : n ≤ 9223372036854775807) (hm : 0 < m) : Fun Tryz.prog 21 [.fv (.int .i64 n), .fv (.int .i64 m)] (.fv (.int .i64 (pick n m))) := by
  refine Fun.body tbl_ok Tryz.func21 rfl (by kernel_rfl) rfl rfl rfl ?_
  by_cases hn : n < 0
  case pos =>
    have hw := neg_wrap h1 hn
    have hp : pick n m = -(n + 1) % m := by rw [pick, if_pos hn]
    have hg : 0 ≤ -(n + 1) := by omega
    rw [← hw] at hp hg
    rw [hp]
    repeat' (first | refine X.loc ?_ | refine nx ?_ | refine X.cdT ?_ | refine X.cdF ?_ | refine cb ?_ ?_ | (refine cc ?_ ?_ <;> intro hcond) | refine rb ?_ | refine nd ?_ | refine dk ?_ | fail)
    exact .f1 (.inl rfl) rfl rfl
  case neg =>
    have hp : pick n m = n % m := by rw [pick, if_neg hn]
    rw [hp]
    repeat' (first | refine X.loc ?_ | refine nx ?_ | refine X.cdT ?_ | refine X.cdF ?_ | refine cb ?_ ?_ | (refine cc ?_ ?_ <;> intro hcond) | refine rb ?_ | refine nd ?_ | refine dk ?_ | fail)
    exact .f1 (.inl rfl) rfl rfl
end Go.Proofs.YtmidechdlbcepaaGreat
namespace Go.Proofs.YtmidechdlbcepaaGreat
open Go.RowKit
structure Rq where
  kind : Int
  a : Int
  b : Int
  c : Int
def encRq (r : Rq) : List FV := [.int .i64 r.kind, .int .i64 r.a, .int .i64 r.b, .int .i64 r.c]
theorem encRq_len (r : Rq) : (encRq r).length = 4 := rfl
def N64 (n : Int) : Prop := -9223372036854775808 ≤ n ∧ n ≤ 9223372036854775807
structure Rq.Ok (r : Rq) : Prop where
  kind : N64 r.kind
  a : N64 r.a
  b : N64 r.b
  c : N64 r.c
def encI (n : Int) : List FV := [.int .i64 n]
theorem quoT_bd {n m : Int} (h : N64 n) (hm : 1 < m) : -4611686018427387904 ≤ n.tdiv m ∧ n.tdiv m ≤ 4611686018427387904 := by
  obtain ⟨h1, h2⟩ := h
  have e := Int.tmod_add_mul_tdiv n m
  have hlt : n.tmod m < m := Int.tmod_lt_of_pos n (by omega)
  rcases Int.lt_or_le n 0 with h | h
  · have e2 : n.tdiv m = -((-n) / m) := by
      rw [← Int.neg_neg n, Int.neg_tdiv, Int.tdiv_eq_ediv_of_nonneg (by omega), Int.neg_neg]
    have h3 : 0 ≤ (-n) / m := Int.ediv_nonneg (by omega) (by omega)
    have h4 : (-n) / m * m ≤ -n := Int.ediv_mul_le _ (by omega)
    have h5 : (-n) / m * 2 ≤ (-n) / m * m := Int.mul_le_mul_of_nonneg_left (by omega) h3
    omega
  · have e2 : n.tdiv m = n / m := Int.tdiv_eq_ediv_of_nonneg h
    have h3 : 0 ≤ n / m := Int.ediv_nonneg h (by omega)
    have h4 : n / m * m ≤ n := Int.ediv_mul_le _ (by omega)
    have h5 : n / m * 2 ≤ n / m * m := Int.mul_le_mul_of_nonneg_left (by omega) h3
    omega
theorem Eff.quoT {T : Tbl} {ρ : Operand → AV} {H : Own} {d t u : Nat} {x y : Operand} {a b : Int} (h1 : ρ x = .fv (.int .i64 a)) (h2 : ρ y = .fv (.int .i64 b)) (h3 : N64 a) (h4 : 1 < b) : Eff T ρ H d (.binOp .quo t x y u) (.fv (.int .i64 (a.tdiv b))) [] := by
  have := Eff.quo (T := T) (H := H) (d := d) (t := t) (u := u) h1 h2 (by omega)
  have hb := quoT_bd h3 h4
  rwa [I64.wrap (by omega) (by omega)] at this

end Go.Proofs.YtmidechdlbcepaaGreat
namespace Go.Proofs.YtmidechdlbcepaaGreat
open Go.RowKit
set_option maxRecDepth 100000
end Go.Proofs.YtmidechdlbcepaaGreat