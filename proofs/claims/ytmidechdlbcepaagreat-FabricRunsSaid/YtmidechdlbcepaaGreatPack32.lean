import Derived.Test.YtmidechdlbcepaaGreatPack30
import Derived.Test.YtmidechdlbcepaaGreatPack06
set_option linter.unusedSimpArgs false
set_option linter.unusedVariables false
namespace Go.Proofs.YtmidechdlbcepaaGreat
open Go.RowKit
set_option maxRecDepth 100000
theorem dxMay_last (d : Dx) (t : Int) (b : Bool) : dxMay d t b = (dxMay d t true && !(d.kind == 4 && !b)) := by
  unfold dxMay
  by_cases h : d.kind = 4
  · simp [h]
  · simp [h]
theorem andNot_zero (a b : Nat) (ha : a ≤ 65535) (hb : b ≤ 65535) : (bits .andNot .i64 (a : Int) (b : Int) = 0) ↔ a &&& b = a := by
  have e : bits .andNot .i64 (a : Int) (b : Int) = IntKind.i64.wrap ((BitVec.ofInt 64 (a : Int) &&& ~~~ BitVec.ofInt 64 (b : Int)).toNat : Int) := rfl
  have h1 : (BitVec.ofInt 64 (a : Int) &&& ~~~ BitVec.ofInt 64 (b : Int)).toNat = a &&& (2 ^ 64 - (b + 1)) := by
    rw [BitVec.toNat_and, BitVec.toNat_not, ofInt_i64 a (by omega), ofInt_i64 b (by omega)]
    congr 1
    omega
  have h2 : a &&& (2 ^ 64 - (b + 1)) ≤ a := Nat.and_le_left
  rw [e, h1, IntKind.wrap_i64]
  have h3 : ((((a &&& (2 ^ 64 - (b + 1)) : Nat) : Int) + 9223372036854775808) % 18446744073709551616 - 9223372036854775808 = 0) ↔ a &&& (2 ^ 64 - (b + 1)) = 0 := by omega
  rw [h3]
  constructor
  · intro h
    apply Nat.eq_of_testBit_eq
    intro i
    have := congrArg (fun x => x.testBit i) h
    simp only [Nat.testBit_and, Nat.zero_testBit] at this
    rw [Nat.testBit_and]
    by_cases hi : i < 64
    · rw [Nat.testBit_two_pow_sub_succ (by omega)] at this
      simp [hi] at this
      cases h4 : a.testBit i <;> simp_all
    · have : a.testBit i = false := Nat.testBit_lt_two_pow (Nat.lt_of_le_of_lt ha (Nat.lt_of_lt_of_le (show 65535 < 2 ^ 64 by omega) (Nat.pow_le_pow_right (by omega) (by omega))))
      simp [this]
  · intro h
    apply Nat.eq_of_testBit_eq
    intro i
    have := congrArg (fun x => x.testBit i) h
    simp only [Nat.testBit_and] at this
    simp only [Nat.testBit_and, Nat.zero_testBit]
    by_cases hi : i < 64
    · rw [Nat.testBit_two_pow_sub_succ (by omega)]
      cases h4 : a.testBit i <;> simp_all
    · have : a.testBit i = false := Nat.testBit_lt_two_pow (Nat.lt_of_le_of_lt ha (Nat.lt_of_lt_of_le (show 65535 < 2 ^ 64 by omega) (Nat.pow_le_pow_right (by omega) (by omega))))
      simp [this]
theorem andNot_maskd {n m : Int} (hn : word n = true) (hm : word m = true) : (bits .andNot .i64 n m != 0) = !decide (maskd n m = n) := by
  have hn := word_iff.1 hn
  have hm := word_iff.1 hm
  obtain ⟨n, rfl⟩ := Int.eq_ofNat_of_zero_le hn.1
  obtain ⟨m, rfl⟩ := Int.eq_ofNat_of_zero_le hm.1
  have := andNot_zero n m (by omega) (by omega)
  have h2 : maskd (n : Int) (m : Int) = ((n &&& m : Nat) : Int) := rfl
  rw [h2]
  by_cases h : n &&& m = n
  · rw [this.2 h, h]
    simp
  · have h3 : bits .andNot .i64 (n : Int) (m : Int) ≠ 0 := fun e => h (this.1 e)
    have h4 : ¬ ((n &&& m : Nat) : Int) = (n : Int) := by omega
    rw [decide_eq_false h4]
    simpa using h3
theorem mxOk_prog (m : Mx) : mxOk m = !(decide (m.field < 0) || decide (m.field ≥ 10) || !word m.mask || !word m.value || bits .andNot .i64 m.value m.mask != 0) := by
  unfold mxOk
  cases h1 : word m.mask
  · simp
  cases h2 : word m.value
  · simp
  rw [andNot_maskd h2 h1]
  rw [Bool.eq_iff_iff]
  simp [inR]
  omega

set_option maxHeartbeats 4000000 in
theorem flowCheck_T (l : List Fl) : Fun Tryz.prog 139 [.fv (slOf encFl l)] (.fv (.int .i64 (flowsFault l))) := by
  refine Fun.body tbl_ok Tryz.func139 rfl (by kernel_rfl) rfl rfl rfl ?_
  repeat' (first | refine X.loc ?_ | refine nx ?_ | refine cb ?_ ?_ | (refine cc ?_ ?_ <;> intro hcond) | refine rb ?_ | refine nd ?_ | refine dk ?_ | fail)
  · refine .f1 (.inl rfl) rfl ?_
    have : 5000 < l.length := by simp at hcond; omega
    unfold flowsFault
    rw [if_pos this]
  have hl5 : l.length ≤ 5000 := by simp at hcond; omega
  have hff : flowsFault l = flsFault l := if_neg (by omega)
  clear hcond
  refine WP.loop (ι := Nat) (fun k => ⟨[(12, .fv (slOf encFl l)), (13, .fv (.int .i64 l.length)), (14, .fv (.int .i64 k))], []⟩) (fun k => k ≤ l.length ∧ flsFault l = flsFault (l.drop k)) (fun k => l.length - k) 0 ⟨by omega, rfl⟩ ?_ ?_
  · exact lq
  rintro k ⟨hk, hd⟩
  try dsimp only
  by_cases hlt : k < l.length
  case neg =>
    repeat' (first | refine X.loc ?_ | refine nx ?_ | refine cb ?_ ?_ | (refine cc ?_ ?_ <;> intro hcond) | refine rb ?_ | refine nd ?_ | refine dk ?_ | fail)
    · exfalso
      simp at hcond
      omega
    · refine .f1 (.inl rfl) rfl ?_
      rw [hff, hd, List.drop_of_length_le (by omega)]
      rfl
  case pos =>
    obtain ⟨f, hf⟩ : ∃ f, l[k]? = some f := ⟨_, List.getElem?_eq_getElem hlt⟩
    have hat := flsFault_at hf hd
    repeat' (first | (apply X.loE; (· exact aR); (· first | (exact .eff (.idxS rfl rfl rfl encFl_len hf)) | exact .callL rfl rfl rfl (fword_T _) rfl | exact bl (fword_T _))) | refine X.loc ?_ | refine nx ?_ | refine cb ?_ ?_ | (refine cc ?_ ?_ <;> intro hcond) | (apply X.gsE; (· exact aR); (· exact aV); (· exact aW); (· intro hc; first | (exact .eff (.idxS rfl rfl rfl encFl_len hf)) | exact .callG rfl rfl rfl (fword_T _) rfl | exact bg (fword_T _)); (· exact aR)) | refine rb ?_ | refine nd ?_ | refine dk ?_ | fail)
    · refine .f1 (.inl rfl) rfl ?_
      have : flFault f = 1 := if_pos (by simp at hcond; omega)
      rw [hff, hat, this, if_neg (by omega)]
    · refine .f1 (.inl rfl) rfl ?_
      have h1 : ¬ (12 < f.ms.length ∨ 100 < f.ds.length) := by rename_i h; simp at h; omega
      have : flFault f = 2 := by
        unfold flFault
        rw [if_neg h1, if_pos (by simp at hcond; simp [inR]; omega)]
      rw [hff, hat, this, if_neg (by omega)]
    rotate_left
    · exfalso
      simp at hcond
      omega
    have h1 : ¬ (12 < f.ms.length ∨ 100 < f.ds.length) := by rename_i h; simp at h; omega
    have h2 : ¬ (inR f.table 0 7 = false ∨ inR f.prio 0 2000 = false) := by simp at hcond; simp [inR]; omega
    have ht7 : 0 ≤ f.table ∧ f.table ≤ 7 := inR_iff.1 (by simp_all)
    have hfl : flFault f = if f.ms.all mxOk = false then 4 else if dxOk f.table f.ds = false then 4 else 0 := by
      unfold flFault
      rw [if_neg h1, if_neg h2]
    clear hcond
    refine WP.loop (ι := Nat) (fun j => ⟨[(12, .fv (slOf encFl l)), (13, .fv (.int .i64 l.length)), (14, .fv (.int .i64 k)), (4, .optr 4 0), (47, .fv (slOf encMx f.ms)), (48, .fv (.int .i64 f.ms.length)), (49, .fv (.int .i64 j))], [(4, .box 108 ((encFl f).map .fv))]⟩) (fun j => j ≤ f.ms.length ∧ f.ms.all mxOk = (f.ms.drop j).all mxOk) (fun j => f.ms.length - j) 0 ⟨by omega, rfl⟩ ?_ ?_
    · exact lq
    rintro j ⟨hj, hjd⟩
    try dsimp only
    by_cases hjlt : j < f.ms.length
    case pos =>
      obtain ⟨m, hm⟩ : ∃ m, f.ms[j]? = some m := ⟨_, List.getElem?_eq_getElem hjlt⟩
      have hma := all_at (p := mxOk) hm
      have hmp := mxOk_prog m
      repeat' (first | (apply X.loE; (· exact aR); (· first | (exact .eff (.idxS rfl rfl rfl encMx_len hm)) | exact .callL rfl rfl rfl (fword_T _) rfl | exact bl (fword_T _))) | refine X.loc ?_ | refine nx ?_ | refine cb ?_ ?_ | (refine cc ?_ ?_ <;> intro hcond) | (apply X.gsE; (· exact aR); (· exact aV); (· exact aW); (· intro hc; first | (exact .eff (.idxS rfl rfl rfl encMx_len hm)) | exact .callG rfl rfl rfl (fword_T _) rfl | exact bg (fword_T _)); (· exact aR)) | refine rb ?_ | refine nd ?_ | refine dk ?_ | fail)
      · refine .f1 (.inl rfl) rfl ?_
        rw [hcond] at hmp
        have : flFault f = 4 := by rw [hfl, if_pos (by rw [hjd, hma, hmp]; rfl)]
        rw [hff, hat, this, if_neg (by omega)]
      · refine ⟨j + 1, ⟨by omega, ?_⟩, by omega, ?_⟩
        · rw [hcond] at hmp
          rw [hjd, hma, hmp]
          rfl
        · exact lq
      · exfalso
        simp at hcond
        omega
    case neg =>
      have hall : f.ms.all mxOk = true := by rw [hjd, List.drop_of_length_le (by omega)]; rfl
      rw [if_neg (by rw [hall]; simp)] at hfl
      repeat' (first | refine X.loc ?_ | refine nx ?_ | refine cb ?_ ?_ | (refine cc ?_ ?_ <;> intro hcond) | refine rb ?_ | refine nd ?_ | refine dk ?_ | fail)
      · exfalso
        simp at hcond
        omega
      clear hcond
      refine WP.loop (ι := Nat) (fun j => ⟨[(12, .fv (slOf encFl l)), (13, .fv (.int .i64 l.length)), (14, .fv (.int .i64 k)), (4, .optr 4 0), (83, .fv (slOf encDx f.ds)), (84, .fv (.int .i64 f.ds.length)), (85, .fv (.int .i64 j))], [(4, .box 108 ((encFl f).map .fv))]⟩) (fun j => j ≤ f.ds.length ∧ dxOk f.table f.ds = dxOk f.table (f.ds.drop j)) (fun j => f.ds.length - j) 0 ⟨by omega, rfl⟩ ?_ ?_
      · exact lq
      rintro j ⟨hj, hjd⟩
      try dsimp only
      by_cases hjlt : j < f.ds.length
      case pos =>
        obtain ⟨d, hm⟩ : ∃ m, f.ds[j]? = some m := ⟨_, List.getElem?_eq_getElem hjlt⟩
        have hma := dxOk_at (t := f.table) hm
        have hbq : (((j : Int)) != (f.ds.length : Int) - 1) = !decide (j + 1 = f.ds.length) := by
          rw [Bool.eq_iff_iff]
          simp
          omega
        rw [dxMay_last, ← hbq] at hma
        repeat' (first | (apply X.loE; (· exact aR); (· first | (exact .eff (.idxS rfl rfl rfl encDx_len hm)) | exact .callL rfl rfl rfl (does_T _ _ ht7) rfl | exact bl (does_T _ _ ht7))) | refine X.loc ?_ | refine nx ?_ | refine cb ?_ ?_ | (refine cc ?_ ?_ <;> intro hcond) | (apply X.gsE; (· exact aR); (· exact aV); (· exact aW); (· intro hc; first | (exact .eff (.idxS rfl rfl rfl encDx_len hm)) | exact .callG rfl rfl rfl (does_T _ _ ht7) rfl | exact bg (does_T _ _ ht7)); (· exact aR)) | refine rb ?_ | refine nd ?_ | refine dk ?_ | fail)
        · refine .f1 (.inl rfl) rfl ?_
          have h3 : dxOk f.table f.ds = false := by
            rw [hjd, hma]
            generalize dxMay d f.table true = p at hcond ⊢
            generalize (d.kind == 4 && ((j : Int) != (f.ds.length : Int) - 1)) = q at hcond ⊢
            cases p <;> cases q <;> simp at hcond ⊢
          have : flFault f = 4 := by rw [hfl, if_pos h3]
          rw [hff, hat, this, if_neg (by omega)]
        · refine ⟨j + 1, ⟨by omega, ?_⟩, by omega, ?_⟩
          · rw [hjd, hma]
            generalize dxMay d f.table true = p at hcond ⊢
            generalize (d.kind == 4 && ((j : Int) != (f.ds.length : Int) - 1)) = q at hcond ⊢
            cases p <;> cases q <;> simp at hcond ⊢
          · exact lq
        · exfalso
          simp at hcond
          omega
      case neg =>
        have hall : dxOk f.table f.ds = true := by rw [hjd, List.drop_of_length_le (by omega)]; rfl
        rw [if_neg (by rw [hall]; simp)] at hfl
        rw [hfl, if_pos rfl] at hat
        repeat' (first | refine X.loc ?_ | refine nx ?_ | refine cb ?_ ?_ | (refine cc ?_ ?_ <;> intro hcond) | refine rb ?_ | refine nd ?_ | refine dk ?_ | fail)
        · exfalso
          simp at hcond
          omega
        · refine ⟨k + 1, ⟨by omega, hat⟩, by omega, ?_⟩
          exact lq
end Go.Proofs.YtmidechdlbcepaaGreat