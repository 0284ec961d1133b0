/- Flows: what the program's check answers. -/
import Derived.Test.YtdbbmjdeeenlhaaF3
import Derived.Test.YtdbbmjdeeenlhaaSum
namespace Go.Proofs.Ytdbbmjdeeenlhaa
open Go.RowKit
set_option maxRecDepth 100000

theorem dxMay_last (d : Dx) (t : Int) (b : Bool) : dxMay d t b = (dxMay d t true && !(d.kind == 4 && !b)) := by
  unfold dxMay
  by_cases h : d.kind = 4
  · simp [h]
  · simp [h]
theorem andNot_zero (a b : Nat) (ha : a ≤ 65535) (hb : b ≤ 65535) : (bits .andNot .i64 (a : Int) (b : Int) = 0) ↔ a &&& b = a := by
  have e : bits .andNot .i64 (a : Int) (b : Int) = IntKind.i64.wrap ((BitVec.ofInt 64 (a : Int) &&& ~~~ BitVec.ofInt 64 (b : Int)).toNat : Int) := rfl
  have h1 : (BitVec.ofInt 64 (a : Int) &&& ~~~ BitVec.ofInt 64 (b : Int)).toNat = a &&& (2 ^ 64 - (b + 1)) := by
    rw [BitVec.toNat_and, BitVec.toNat_not, ofInt_i64 a (by omega), ofInt_i64 b (by omega)]
    congr 1
    omega
  have h2 : a &&& (2 ^ 64 - (b + 1)) ≤ a := Nat.and_le_left
  rw [e, h1, IntKind.wrap_i64]
  have h3 : ((((a &&& (2 ^ 64 - (b + 1)) : Nat) : Int) + 9223372036854775808) % 18446744073709551616 - 9223372036854775808 = 0) ↔ a &&& (2 ^ 64 - (b + 1)) = 0 := by omega
  rw [h3]
  constructor
  · intro h
    apply Nat.eq_of_testBit_eq
    intro i
    have := congrArg (fun x => x.testBit i) h
    simp only [Nat.testBit_and, Nat.zero_testBit] at this
    rw [Nat.testBit_and]
    by_cases hi : i < 64
    · rw [Nat.testBit_two_pow_sub_succ (by omega)] at this
      simp [hi] at this
      cases h4 : a.testBit i <;> simp_all
    · have : a.testBit i = false := Nat.testBit_lt_two_pow (Nat.lt_of_le_of_lt ha (Nat.lt_of_lt_of_le (show 65535 < 2 ^ 64 by omega) (Nat.pow_le_pow_right (by omega) (by omega))))
      simp [this]
  · intro h
    apply Nat.eq_of_testBit_eq
    intro i
    have := congrArg (fun x => x.testBit i) h
    simp only [Nat.testBit_and] at this
    simp only [Nat.testBit_and, Nat.zero_testBit]
    by_cases hi : i < 64
    · rw [Nat.testBit_two_pow_sub_succ (by omega)]
      cases h4 : a.testBit i <;> simp_all
    · have : a.testBit i = false := Nat.testBit_lt_two_pow (Nat.lt_of_le_of_lt ha (Nat.lt_of_lt_of_le (show 65535 < 2 ^ 64 by omega) (Nat.pow_le_pow_right (by omega) (by omega))))
      simp [this]
theorem andNot_maskd {n m : Int} (hn : word n = true) (hm : word m = true) : (bits .andNot .i64 n m != 0) = !decide (maskd n m = n) := by
  have hn := word_iff.1 hn
  have hm := word_iff.1 hm
  obtain ⟨n, rfl⟩ := Int.eq_ofNat_of_zero_le hn.1
  obtain ⟨m, rfl⟩ := Int.eq_ofNat_of_zero_le hm.1
  have := andNot_zero n m (by omega) (by omega)
  have h2 : maskd (n : Int) (m : Int) = ((n &&& m : Nat) : Int) := rfl
  rw [h2]
  by_cases h : n &&& m = n
  · rw [this.2 h, h]
    simp
  · have h3 : bits .andNot .i64 (n : Int) (m : Int) ≠ 0 := fun e => h (this.1 e)
    have h4 : ¬ ((n &&& m : Nat) : Int) = (n : Int) := by omega
    rw [decide_eq_false h4]
    simpa using h3
theorem mxOk_prog (m : Mx) : mxOk m = !(decide (m.field < 0) || decide (m.field ≥ 10) || !word m.mask || !word m.value || bits .andNot .i64 m.value m.mask != 0) := by
  unfold mxOk
  cases h1 : word m.mask
  · simp
  cases h2 : word m.value
  · simp
  rw [andNot_maskd h2 h1]
  rw [Bool.eq_iff_iff]
  simp [inR]
  omega

set_option maxHeartbeats 4000000 in
theorem flowCheck_T (l : List Fl) : Fun Try.prog 58 [.fv (slOf encFl l)] (.fv (.int .i64 (flowsFault l))) := by
  refine Fun.body tbl_ok Try.func58 rfl (by kernel_rfl) rfl rfl rfl ?_
  repeat' (first
    | (apply Ops.loc; (· rfl); (· rfl); (· rfl); (· first | exact .eff (.mv rfl) | exact .eff (.asg rfl) | exact .eff (.loadO rfl rfl rfl) | exact .eff (.loadF rfl rfl) | exact .eff (.fldO rfl rfl rfl) | exact .eff (.fldF rfl rfl rfl) | (refine .eff (.add64 rfl rfl ?_ ?_) <;> omega) | (refine .eff (.sub64 rfl rfl ?_ ?_) <;> omega) | exact .eff (.lenF rfl rfl) | exact .eff (.lenO rfl rfl rfl) | exact .eff (.lenN rfl rfl) | exact .eff (.lenS rfl rfl) | exact .eff (.isNilF rfl (by omega) rfl (flatMap_len (fun _ => rfl) _)) | exact .eff (.isNilO rfl rfl (by omega) rfl) | exact .eff (.isNilZ rfl rfl rfl) | exact .eff (.lenB rfl rfl) | exact .eff (.idxB rfl rfl rfl (by omega) (by omega)) | exact .eff (.oLH rfl rfl rfl rfl rfl (by omega) (by omega)) | exact .eff (.oL rfl rfl rfl rfl (by omega)) | exact .eff (.oH rfl rfl rfl rfl (by omega)) | exact .eff (.bLH rfl rfl rfl rfl rfl (by omega) (by omega)) | exact .eff (.or rfl rfl rfl) | exact .eff (.and rfl rfl rfl) | exact .eff (.not rfl) | exact .eff (.extract rfl rfl) | (refine .eff (.mul64 rfl rfl ?_ ?_) <;> omega) | exact .eff (.bin rfl rfl rfl) | (refine .eff (.quo64 rfl rfl ?_ ?_ ?_) <;> omega) | (refine .eff (.rem64 rfl rfl ?_ ?_) <;> omega) | exact .eff (.idxPO rfl rfl rfl (by omega) (by omega)) | exact .eff (.idxPF rfl rfl rfl (by omega) (by omega)) | exact .eff (.idxO rfl rfl rfl rfl (by omega) (by omega)) | exact .eff (.buildS rfl rfl rfl rfl) | exact .eff (.eqA rfl rfl rfl rfl rfl) | exact .eff (.neA rfl rfl rfl rfl rfl) | exact .eff (.quo rfl rfl (by decide)) | exact .eff (.rem rfl rfl (by decide)) | exact .eff (.shr rfl rfl (by decide) (by decide)) | exact .eff (.shl rfl rfl (by decide) (by decide)) | exact .eff (.conv rfl rfl rfl) | exact .eff (.strEq rfl rfl) | exact .eff (.strNe rfl rfl) | exact .eff (.mkFn) | exact .eff (.nilO rfl) | exact .eff (.nilF rfl) | exact .eff (.neg rfl) | exact .eff (.max rfl rfl) | exact .eff (.min rfl rfl)))
    | with_reducible refine WP.seq ?_
    | with_reducible apply WP.reg tbl_ok rfl
    | with_reducible refine Ops.nil ?_
    | with_reducible refine thenQ.nor ?_
    | with_reducible refine thenQ.ex ?_
    | with_reducible refine thenQ.ret ?_
    | with_reducible refine blockQ.nor ?_
    | with_reducible refine blockQ.ret ?_
    | with_reducible refine blockQ.hit rfl ?_
    | with_reducible refine blockQ.out rfl ?_
    | with_reducible refine WP.block ?_
    | with_reducible refine WP.skip ?_
    | with_reducible refine WP.exit ?_
    | with_reducible refine WP.ret ?_
    | refine WP.condT rfl ?_
    | refine WP.condF rfl ?_
    | refine WP.condBit rfl ?_ ?_
    | (refine WP.cond rfl ?_ ?_ <;> intro hcond)
    | (apply Ops.gst; (· rfl); (· rfl); (· rfl); (· rfl); (· rfl); (· rfl); (· rfl); (· first | exact .b | exact .w); (· intro hc; repeat' (first | exact trivial | exact fun _ => hc | exact fun _ => hc.1 | exact fun _ => ⟨hc.1.1, hc.1.2⟩ | refine And.intro ?_ ?_)); (· intro hc; first | exact .eff (.mvG rfl) | exact .eff (.asg rfl) | exact .eff (.loadO rfl rfl rfl) | exact .eff (.loadF rfl rfl) | exact .eff (.fldO rfl rfl rfl) | exact .eff (.fldF rfl rfl rfl) | (refine .eff (.add64 rfl rfl ?_ ?_) <;> omega) | (refine .eff (.sub64 rfl rfl ?_ ?_) <;> omega) | exact .eff (.lenF rfl rfl) | exact .eff (.lenO rfl rfl rfl) | exact .eff (.lenN rfl rfl) | exact .eff (.lenS rfl rfl) | exact .eff (.isNilF rfl (by omega) rfl (flatMap_len (fun _ => rfl) _)) | exact .eff (.isNilO rfl rfl (by omega) rfl) | exact .eff (.isNilZ rfl rfl rfl) | exact .eff (.lenB rfl rfl) | exact .eff (.idxB rfl rfl rfl (by omega) (by omega)) | exact .eff (.oLH rfl rfl rfl rfl rfl (by omega) (by omega)) | exact .eff (.oL rfl rfl rfl rfl (by omega)) | exact .eff (.oH rfl rfl rfl rfl (by omega)) | exact .eff (.bLH rfl rfl rfl rfl rfl (by omega) (by omega)) | exact .eff (.or rfl rfl rfl) | exact .eff (.and rfl rfl rfl) | exact .eff (.not rfl) | exact .eff (.extract rfl rfl) | (refine .eff (.mul64 rfl rfl ?_ ?_) <;> omega) | exact .eff (.bin rfl rfl rfl) | (refine .eff (.quo64 rfl rfl ?_ ?_ ?_) <;> omega) | (refine .eff (.rem64 rfl rfl ?_ ?_) <;> omega) | exact .eff (.idxPO rfl rfl rfl (by omega) (by omega)) | exact .eff (.idxPF rfl rfl rfl (by omega) (by omega)) | exact .eff (.idxO rfl rfl rfl rfl (by omega) (by omega)) | exact .eff (.buildS rfl rfl rfl rfl) | exact .eff (.eqA rfl rfl rfl rfl rfl) | exact .eff (.neA rfl rfl rfl rfl rfl) | exact .eff (.quo rfl rfl (by decide)) | exact .eff (.rem rfl rfl (by decide)) | exact .eff (.shr rfl rfl (by decide) (by decide)) | exact .eff (.shl rfl rfl (by decide) (by decide)) | exact .eff (.conv rfl rfl rfl) | exact .eff (.strEq rfl rfl) | exact .eff (.strNe rfl rfl) | exact .eff (.mkFn) | exact .eff (.nilO rfl) | exact .eff (.nilF rfl) | exact .eff (.neg rfl) | exact .eff (.max rfl rfl) | exact .eff (.min rfl rfl)); (· rfl); (· rfl))
    | (apply Ops.new; (· rfl); (· rfl); (· rfl); (· first | exact .eff (.box rfl) | exact .eff (.alloc rfl) | exact .eff (.bsliceS rfl rfl rfl rfl rfl) | exact .eff (.mkS rfl rfl rfl rfl (by omega) (by omega)) | exact .eff (.zeroS rfl rfl (by intro l hl; first | cases hl | exact ⟨_, by injection hl with hl; subst hl; rfl⟩) rfl rfl rfl)); (· first | rfl | (simp only [freshB, noRefH, OB.cells, refsL_fv, refsL_app]; rfl)))
    | (apply Ops.app; (· rfl); (· rfl); (· rfl); (· rfl); (· rfl); (· rfl); (· rfl); (· exact (by first | exact .nil | exact .own rfl (rmv_q (by first | exact (rfl : _ = []) | exact (rfl : _ = [_]) | exact (rfl : _ = [_, _]) | exact (rfl : _ = [_, _, _]) | exact (rfl : _ = [_, _, _, _]) | exact (rfl : _ = [_, _, _, _, _]) | exact (rfl : _ = [_, _, _, _, _, _]) | exact (rfl : _ = [_, _, _, _, _, _, _]) | exact (rfl : _ = [_, _, _, _, _, _, _, _]) | exact (rfl : _ = [_, _, _, _, _, _, _, _, _]) | exact (rfl : _ = [_, _, _, _, _, _, _, _, _, _]) | exact (rfl : _ = [_, _, _, _, _, _, _, _, _, _, _]) | exact (rfl : _ = [_, _, _, _, _, _, _, _, _, _, _, _]))))); (· exact (by first | exact .nil | exact .own rfl (by first | rfl | exact onesB_map _) | exact .fz (by first | rfl | (simp; done) | exact (flatMap_len (s := 1) (fun _ => rfl) _).trans (by omega)))); (· rfl); (· show (_ : Nat) ≤ 140737488355328; omega); (· first | rfl | (simp only [freshB, noRefH, OB.cells, refsL_fv, refsL_app]; rfl)))
    | (apply Ops.appS; (· rfl); (· rfl); (· rfl); (· rfl); (· rfl); (· rfl); (· rfl); (· rfl); (· rfl); (· exact (by first | exact .nil | exact .own rfl (rmv_q (by first | exact (rfl : _ = []) | exact (rfl : _ = [_]) | exact (rfl : _ = [_, _]) | exact (rfl : _ = [_, _, _]) | exact (rfl : _ = [_, _, _, _]) | exact (rfl : _ = [_, _, _, _, _]) | exact (rfl : _ = [_, _, _, _, _, _]) | exact (rfl : _ = [_, _, _, _, _, _, _]) | exact (rfl : _ = [_, _, _, _, _, _, _, _]) | exact (rfl : _ = [_, _, _, _, _, _, _, _, _]) | exact (rfl : _ = [_, _, _, _, _, _, _, _, _, _]) | exact (rfl : _ = [_, _, _, _, _, _, _, _, _, _, _]) | exact (rfl : _ = [_, _, _, _, _, _, _, _, _, _, _, _]))))); (· show (_ : Nat) ≤ 140737488355328; omega); (· first | rfl | (simp only [freshB, noRefH, OB.cells, refsL_fv, refsL_app]; rfl)))
    | (apply Ops.stoW; (· rfl); (· rfl); (· rfl); (· rfl); (· rfl); (· rfl); (· first | rfl | exact onesB_map _); (· rfl); (· exact rfl); (· exact (by repeat' (first | exact .here | apply Repl.there rfl))))
    | (apply Ops.stoB; (· rfl); (· rfl); (· rfl); (· rfl); (· rfl); (· rfl); (· first | rfl | exact onesB_map _); (· rfl); (· exact rfl); (· exact (by repeat' (first | exact .here | apply Repl.there rfl))))
    | (apply Ops.stoR; (· rfl); (· rfl); (· rfl); (· rfl); (· rfl); (· rfl); (· first | rfl | exact onesB_map _); (· rfl); (· exact rfl); (· exact (by repeat' (first | exact .here | apply Repl.there rfl))))
    | (apply Ops.gand; (· rfl); (· rfl); (· rfl); (· rfl); (· rfl); (· rfl); (· rfl); (· exact (by first | exact .b | exact .w)); (· rfl); (· rfl); (· rfl); (· simp); (· intro hc; first | exact hc | exact hc.1); (· intro hc; exact ⟨fun h => h.2, fun h => ⟨hc, h⟩⟩))
    | (apply Ops.gor; (· rfl); (· rfl); (· rfl); (· rfl); (· rfl); (· rfl); (· rfl); (· exact (by first | exact .b | exact .w)); (· rfl); (· rfl); (· rfl); (· simp); (· intro hc; first | exact hc | exact hc.1); (· intro hc; exact ⟨fun h => h.2, fun h => ⟨hc, h⟩⟩))
    | apply WP.drwL tbl_ok mixed_no rfl
    | ((with_reducible apply drwK.mk); (· kernel_rfl); (· first | rfl | (simp only [freeF, List.all_cons, List.all_nil, noRefH, OB.cells, refsL_fv, refsL_app]; rfl)))
    | fail)
  all_goals (try exact ([] : List Fp))
  · refine .f1 (.inl rfl) rfl ?_
    have : 5000 < l.length := by simp at hcond; omega
    unfold flowsFault
    rw [if_pos this]
  have hl5 : l.length ≤ 5000 := by simp at hcond; omega
  have hff : flowsFault l = flsFault l := if_neg (by omega)
  clear hcond
  refine WP.loop (ι := Nat) (fun k => ⟨[(12, .fv (slOf encFl l)), (13, .fv (.int .i64 l.length)), (14, .fv (.int .i64 k))], []⟩) (fun k => k ≤ l.length ∧ flsFault l = flsFault (l.drop k)) (fun k => l.length - k) 0 ⟨by omega, rfl⟩ ?_ ?_
  · skip
    refine St.le_of ?_ ?_ <;> (repeat' (first | exact trivial | refine ⟨⟨_, rfl, .refl _⟩, ?_⟩ | refine ⟨⟨_, rfl, .any _⟩, ?_⟩ | refine ⟨⟨_, rfl, .of_eq ?_⟩, ?_⟩ | refine ⟨⟨_, rfl, fun _ _ _ _ h => h⟩, ?_⟩ | fail))
  rintro k ⟨hk, hd⟩
  try dsimp only
  by_cases hlt : k < l.length
  case neg =>
    repeat' (first
      | (apply Ops.loc; (· rfl); (· rfl); (· rfl); (· first | exact .eff (.mv rfl) | exact .eff (.asg rfl) | exact .eff (.loadO rfl rfl rfl) | exact .eff (.loadF rfl rfl) | exact .eff (.fldO rfl rfl rfl) | exact .eff (.fldF rfl rfl rfl) | (refine .eff (.add64 rfl rfl ?_ ?_) <;> omega) | (refine .eff (.sub64 rfl rfl ?_ ?_) <;> omega) | exact .eff (.lenF rfl rfl) | exact .eff (.lenO rfl rfl rfl) | exact .eff (.lenN rfl rfl) | exact .eff (.lenS rfl rfl) | exact .eff (.isNilF rfl (by omega) rfl (flatMap_len (fun _ => rfl) _)) | exact .eff (.isNilO rfl rfl (by omega) rfl) | exact .eff (.isNilZ rfl rfl rfl) | exact .eff (.lenB rfl rfl) | exact .eff (.idxB rfl rfl rfl (by omega) (by omega)) | exact .eff (.oLH rfl rfl rfl rfl rfl (by omega) (by omega)) | exact .eff (.oL rfl rfl rfl rfl (by omega)) | exact .eff (.oH rfl rfl rfl rfl (by omega)) | exact .eff (.bLH rfl rfl rfl rfl rfl (by omega) (by omega)) | exact .eff (.or rfl rfl rfl) | exact .eff (.and rfl rfl rfl) | exact .eff (.not rfl) | exact .eff (.extract rfl rfl) | (refine .eff (.mul64 rfl rfl ?_ ?_) <;> omega) | exact .eff (.bin rfl rfl rfl) | (refine .eff (.quo64 rfl rfl ?_ ?_ ?_) <;> omega) | (refine .eff (.rem64 rfl rfl ?_ ?_) <;> omega) | exact .eff (.idxPO rfl rfl rfl (by omega) (by omega)) | exact .eff (.idxPF rfl rfl rfl (by omega) (by omega)) | exact .eff (.idxO rfl rfl rfl rfl (by omega) (by omega)) | exact .eff (.buildS rfl rfl rfl rfl) | exact .eff (.eqA rfl rfl rfl rfl rfl) | exact .eff (.neA rfl rfl rfl rfl rfl) | exact .eff (.quo rfl rfl (by decide)) | exact .eff (.rem rfl rfl (by decide)) | exact .eff (.shr rfl rfl (by decide) (by decide)) | exact .eff (.shl rfl rfl (by decide) (by decide)) | exact .eff (.conv rfl rfl rfl) | exact .eff (.strEq rfl rfl) | exact .eff (.strNe rfl rfl) | exact .eff (.mkFn) | exact .eff (.nilO rfl) | exact .eff (.nilF rfl) | exact .eff (.neg rfl) | exact .eff (.max rfl rfl) | exact .eff (.min rfl rfl)))
      | with_reducible refine WP.seq ?_
      | with_reducible apply WP.reg tbl_ok rfl
      | with_reducible refine Ops.nil ?_
      | with_reducible refine thenQ.nor ?_
      | with_reducible refine thenQ.ex ?_
      | with_reducible refine thenQ.ret ?_
      | with_reducible refine blockQ.nor ?_
      | with_reducible refine blockQ.ret ?_
      | with_reducible refine blockQ.hit rfl ?_
      | with_reducible refine blockQ.out rfl ?_
      | with_reducible refine WP.block ?_
      | with_reducible refine WP.skip ?_
      | with_reducible refine WP.exit ?_
      | with_reducible refine WP.ret ?_
      | refine WP.condT rfl ?_
      | refine WP.condF rfl ?_
      | refine WP.condBit rfl ?_ ?_
      | (refine WP.cond rfl ?_ ?_ <;> intro hcond)
      | (apply Ops.gst; (· rfl); (· rfl); (· rfl); (· rfl); (· rfl); (· rfl); (· rfl); (· first | exact .b | exact .w); (· intro hc; repeat' (first | exact trivial | exact fun _ => hc | exact fun _ => hc.1 | exact fun _ => ⟨hc.1.1, hc.1.2⟩ | refine And.intro ?_ ?_)); (· intro hc; first | exact .eff (.mvG rfl) | exact .eff (.asg rfl) | exact .eff (.loadO rfl rfl rfl) | exact .eff (.loadF rfl rfl) | exact .eff (.fldO rfl rfl rfl) | exact .eff (.fldF rfl rfl rfl) | (refine .eff (.add64 rfl rfl ?_ ?_) <;> omega) | (refine .eff (.sub64 rfl rfl ?_ ?_) <;> omega) | exact .eff (.lenF rfl rfl) | exact .eff (.lenO rfl rfl rfl) | exact .eff (.lenN rfl rfl) | exact .eff (.lenS rfl rfl) | exact .eff (.isNilF rfl (by omega) rfl (flatMap_len (fun _ => rfl) _)) | exact .eff (.isNilO rfl rfl (by omega) rfl) | exact .eff (.isNilZ rfl rfl rfl) | exact .eff (.lenB rfl rfl) | exact .eff (.idxB rfl rfl rfl (by omega) (by omega)) | exact .eff (.oLH rfl rfl rfl rfl rfl (by omega) (by omega)) | exact .eff (.oL rfl rfl rfl rfl (by omega)) | exact .eff (.oH rfl rfl rfl rfl (by omega)) | exact .eff (.bLH rfl rfl rfl rfl rfl (by omega) (by omega)) | exact .eff (.or rfl rfl rfl) | exact .eff (.and rfl rfl rfl) | exact .eff (.not rfl) | exact .eff (.extract rfl rfl) | (refine .eff (.mul64 rfl rfl ?_ ?_) <;> omega) | exact .eff (.bin rfl rfl rfl) | (refine .eff (.quo64 rfl rfl ?_ ?_ ?_) <;> omega) | (refine .eff (.rem64 rfl rfl ?_ ?_) <;> omega) | exact .eff (.idxPO rfl rfl rfl (by omega) (by omega)) | exact .eff (.idxPF rfl rfl rfl (by omega) (by omega)) | exact .eff (.idxO rfl rfl rfl rfl (by omega) (by omega)) | exact .eff (.buildS rfl rfl rfl rfl) | exact .eff (.eqA rfl rfl rfl rfl rfl) | exact .eff (.neA rfl rfl rfl rfl rfl) | exact .eff (.quo rfl rfl (by decide)) | exact .eff (.rem rfl rfl (by decide)) | exact .eff (.shr rfl rfl (by decide) (by decide)) | exact .eff (.shl rfl rfl (by decide) (by decide)) | exact .eff (.conv rfl rfl rfl) | exact .eff (.strEq rfl rfl) | exact .eff (.strNe rfl rfl) | exact .eff (.mkFn) | exact .eff (.nilO rfl) | exact .eff (.nilF rfl) | exact .eff (.neg rfl) | exact .eff (.max rfl rfl) | exact .eff (.min rfl rfl)); (· rfl); (· rfl))
      | (apply Ops.new; (· rfl); (· rfl); (· rfl); (· first | exact .eff (.box rfl) | exact .eff (.alloc rfl) | exact .eff (.bsliceS rfl rfl rfl rfl rfl) | exact .eff (.mkS rfl rfl rfl rfl (by omega) (by omega)) | exact .eff (.zeroS rfl rfl (by intro l hl; first | cases hl | exact ⟨_, by injection hl with hl; subst hl; rfl⟩) rfl rfl rfl)); (· first | rfl | (simp only [freshB, noRefH, OB.cells, refsL_fv, refsL_app]; rfl)))
      | (apply Ops.app; (· rfl); (· rfl); (· rfl); (· rfl); (· rfl); (· rfl); (· rfl); (· exact (by first | exact .nil | exact .own rfl (rmv_q (by first | exact (rfl : _ = []) | exact (rfl : _ = [_]) | exact (rfl : _ = [_, _]) | exact (rfl : _ = [_, _, _]) | exact (rfl : _ = [_, _, _, _]) | exact (rfl : _ = [_, _, _, _, _]) | exact (rfl : _ = [_, _, _, _, _, _]) | exact (rfl : _ = [_, _, _, _, _, _, _]) | exact (rfl : _ = [_, _, _, _, _, _, _, _]) | exact (rfl : _ = [_, _, _, _, _, _, _, _, _]) | exact (rfl : _ = [_, _, _, _, _, _, _, _, _, _]) | exact (rfl : _ = [_, _, _, _, _, _, _, _, _, _, _]) | exact (rfl : _ = [_, _, _, _, _, _, _, _, _, _, _, _]))))); (· exact (by first | exact .nil | exact .own rfl (by first | rfl | exact onesB_map _) | exact .fz (by first | rfl | (simp; done) | exact (flatMap_len (s := 1) (fun _ => rfl) _).trans (by omega)))); (· rfl); (· show (_ : Nat) ≤ 140737488355328; omega); (· first | rfl | (simp only [freshB, noRefH, OB.cells, refsL_fv, refsL_app]; rfl)))
      | (apply Ops.appS; (· rfl); (· rfl); (· rfl); (· rfl); (· rfl); (· rfl); (· rfl); (· rfl); (· rfl); (· exact (by first | exact .nil | exact .own rfl (rmv_q (by first | exact (rfl : _ = []) | exact (rfl : _ = [_]) | exact (rfl : _ = [_, _]) | exact (rfl : _ = [_, _, _]) | exact (rfl : _ = [_, _, _, _]) | exact (rfl : _ = [_, _, _, _, _]) | exact (rfl : _ = [_, _, _, _, _, _]) | exact (rfl : _ = [_, _, _, _, _, _, _]) | exact (rfl : _ = [_, _, _, _, _, _, _, _]) | exact (rfl : _ = [_, _, _, _, _, _, _, _, _]) | exact (rfl : _ = [_, _, _, _, _, _, _, _, _, _]) | exact (rfl : _ = [_, _, _, _, _, _, _, _, _, _, _]) | exact (rfl : _ = [_, _, _, _, _, _, _, _, _, _, _, _]))))); (· show (_ : Nat) ≤ 140737488355328; omega); (· first | rfl | (simp only [freshB, noRefH, OB.cells, refsL_fv, refsL_app]; rfl)))
      | (apply Ops.stoW; (· rfl); (· rfl); (· rfl); (· rfl); (· rfl); (· rfl); (· first | rfl | exact onesB_map _); (· rfl); (· exact rfl); (· exact (by repeat' (first | exact .here | apply Repl.there rfl))))
      | (apply Ops.stoB; (· rfl); (· rfl); (· rfl); (· rfl); (· rfl); (· rfl); (· first | rfl | exact onesB_map _); (· rfl); (· exact rfl); (· exact (by repeat' (first | exact .here | apply Repl.there rfl))))
      | (apply Ops.stoR; (· rfl); (· rfl); (· rfl); (· rfl); (· rfl); (· rfl); (· first | rfl | exact onesB_map _); (· rfl); (· exact rfl); (· exact (by repeat' (first | exact .here | apply Repl.there rfl))))
      | (apply Ops.gand; (· rfl); (· rfl); (· rfl); (· rfl); (· rfl); (· rfl); (· rfl); (· exact (by first | exact .b | exact .w)); (· rfl); (· rfl); (· rfl); (· simp); (· intro hc; first | exact hc | exact hc.1); (· intro hc; exact ⟨fun h => h.2, fun h => ⟨hc, h⟩⟩))
      | (apply Ops.gor; (· rfl); (· rfl); (· rfl); (· rfl); (· rfl); (· rfl); (· rfl); (· exact (by first | exact .b | exact .w)); (· rfl); (· rfl); (· rfl); (· simp); (· intro hc; first | exact hc | exact hc.1); (· intro hc; exact ⟨fun h => h.2, fun h => ⟨hc, h⟩⟩))
      | apply WP.drwL tbl_ok mixed_no rfl
      | ((with_reducible apply drwK.mk); (· kernel_rfl); (· first | rfl | (simp only [freeF, List.all_cons, List.all_nil, noRefH, OB.cells, refsL_fv, refsL_app]; rfl)))
      | fail)
    all_goals (try exact ([] : List Fp))
    · exfalso
      simp at hcond
      omega
    · refine .f1 (.inl rfl) rfl ?_
      rw [hff, hd, List.drop_of_length_le (by omega)]
      rfl
  case pos =>
    obtain ⟨f, hf⟩ : ∃ f, l[k]? = some f := ⟨_, List.getElem?_eq_getElem hlt⟩
    have hat := flsFault_at hf hd
    repeat' (first
      | (apply Ops.loc; (· rfl); (· rfl); (· rfl); (· first | (exact .eff (.idxS rfl rfl rfl encFl_len hf)) | exact .eff (.mv rfl) | exact .eff (.asg rfl) | exact .eff (.loadO rfl rfl rfl) | exact .eff (.loadF rfl rfl) | exact .eff (.fldO rfl rfl rfl) | exact .eff (.fldF rfl rfl rfl) | (refine .eff (.add64 rfl rfl ?_ ?_) <;> omega) | (refine .eff (.sub64 rfl rfl ?_ ?_) <;> omega) | exact .eff (.lenF rfl rfl) | exact .eff (.lenO rfl rfl rfl) | exact .eff (.lenN rfl rfl) | exact .eff (.lenS rfl rfl) | exact .eff (.isNilF rfl (by omega) rfl (flatMap_len (fun _ => rfl) _)) | exact .eff (.isNilO rfl rfl (by omega) rfl) | exact .eff (.isNilZ rfl rfl rfl) | exact .eff (.lenB rfl rfl) | exact .eff (.idxB rfl rfl rfl (by omega) (by omega)) | exact .eff (.oLH rfl rfl rfl rfl rfl (by omega) (by omega)) | exact .eff (.oL rfl rfl rfl rfl (by omega)) | exact .eff (.oH rfl rfl rfl rfl (by omega)) | exact .eff (.bLH rfl rfl rfl rfl rfl (by omega) (by omega)) | exact .eff (.or rfl rfl rfl) | exact .eff (.and rfl rfl rfl) | exact .eff (.not rfl) | exact .eff (.extract rfl rfl) | (refine .eff (.mul64 rfl rfl ?_ ?_) <;> omega) | exact .eff (.bin rfl rfl rfl) | (refine .eff (.quo64 rfl rfl ?_ ?_ ?_) <;> omega) | (refine .eff (.rem64 rfl rfl ?_ ?_) <;> omega) | exact .eff (.idxPO rfl rfl rfl (by omega) (by omega)) | exact .eff (.idxPF rfl rfl rfl (by omega) (by omega)) | exact .eff (.idxO rfl rfl rfl rfl (by omega) (by omega)) | exact .eff (.buildS rfl rfl rfl rfl) | exact .eff (.eqA rfl rfl rfl rfl rfl) | exact .eff (.neA rfl rfl rfl rfl rfl) | exact .eff (.quo rfl rfl (by decide)) | exact .eff (.rem rfl rfl (by decide)) | exact .eff (.shr rfl rfl (by decide) (by decide)) | exact .eff (.shl rfl rfl (by decide) (by decide)) | exact .eff (.conv rfl rfl rfl) | exact .eff (.strEq rfl rfl) | exact .eff (.strNe rfl rfl) | exact .eff (.mkFn) | exact .eff (.nilO rfl) | exact .eff (.nilF rfl) | exact .eff (.neg rfl) | exact .eff (.max rfl rfl) | exact .eff (.min rfl rfl) | exact .callL rfl rfl rfl (by first | exact fword_T _) rfl | (apply LEff.callBL; (· rfl); (· rfl); (· exact fword_T _); (· skip; repeat' (first | exact .nil | refine .cons ?_ ?_ | exact .le (.refl _) | exact .row rfl | exact .box rfl | exact .cut rfl (by omega) | exact .le .nil | refine .agg ?_ | refine .fn ?_ | fail)); (· rfl))))
      | with_reducible refine WP.seq ?_
      | with_reducible apply WP.reg tbl_ok rfl
      | with_reducible refine Ops.nil ?_
      | with_reducible refine thenQ.nor ?_
      | with_reducible refine thenQ.ex ?_
      | with_reducible refine thenQ.ret ?_
      | with_reducible refine blockQ.nor ?_
      | with_reducible refine blockQ.ret ?_
      | with_reducible refine blockQ.hit rfl ?_
      | with_reducible refine blockQ.out rfl ?_
      | with_reducible refine WP.block ?_
      | with_reducible refine WP.skip ?_
      | with_reducible refine WP.exit ?_
      | with_reducible refine WP.ret ?_
      | refine WP.condT rfl ?_
      | refine WP.condF rfl ?_
      | refine WP.condBit rfl ?_ ?_
      | (refine WP.cond rfl ?_ ?_ <;> intro hcond)
      | (apply Ops.gst; (· rfl); (· rfl); (· rfl); (· rfl); (· rfl); (· rfl); (· rfl); (· first | exact .b | exact .w); (· intro hc; repeat' (first | exact trivial | exact fun _ => hc | exact fun _ => hc.1 | exact fun _ => ⟨hc.1.1, hc.1.2⟩ | refine And.intro ?_ ?_)); (· intro hc; first | (exact .eff (.idxS rfl rfl rfl encFl_len hf)) | exact .eff (.mvG rfl) | exact .eff (.asg rfl) | exact .eff (.loadO rfl rfl rfl) | exact .eff (.loadF rfl rfl) | exact .eff (.fldO rfl rfl rfl) | exact .eff (.fldF rfl rfl rfl) | (refine .eff (.add64 rfl rfl ?_ ?_) <;> omega) | (refine .eff (.sub64 rfl rfl ?_ ?_) <;> omega) | exact .eff (.lenF rfl rfl) | exact .eff (.lenO rfl rfl rfl) | exact .eff (.lenN rfl rfl) | exact .eff (.lenS rfl rfl) | exact .eff (.isNilF rfl (by omega) rfl (flatMap_len (fun _ => rfl) _)) | exact .eff (.isNilO rfl rfl (by omega) rfl) | exact .eff (.isNilZ rfl rfl rfl) | exact .eff (.lenB rfl rfl) | exact .eff (.idxB rfl rfl rfl (by omega) (by omega)) | exact .eff (.oLH rfl rfl rfl rfl rfl (by omega) (by omega)) | exact .eff (.oL rfl rfl rfl rfl (by omega)) | exact .eff (.oH rfl rfl rfl rfl (by omega)) | exact .eff (.bLH rfl rfl rfl rfl rfl (by omega) (by omega)) | exact .eff (.or rfl rfl rfl) | exact .eff (.and rfl rfl rfl) | exact .eff (.not rfl) | exact .eff (.extract rfl rfl) | (refine .eff (.mul64 rfl rfl ?_ ?_) <;> omega) | exact .eff (.bin rfl rfl rfl) | (refine .eff (.quo64 rfl rfl ?_ ?_ ?_) <;> omega) | (refine .eff (.rem64 rfl rfl ?_ ?_) <;> omega) | exact .eff (.idxPO rfl rfl rfl (by omega) (by omega)) | exact .eff (.idxPF rfl rfl rfl (by omega) (by omega)) | exact .eff (.idxO rfl rfl rfl rfl (by omega) (by omega)) | exact .eff (.buildS rfl rfl rfl rfl) | exact .eff (.eqA rfl rfl rfl rfl rfl) | exact .eff (.neA rfl rfl rfl rfl rfl) | exact .eff (.quo rfl rfl (by decide)) | exact .eff (.rem rfl rfl (by decide)) | exact .eff (.shr rfl rfl (by decide) (by decide)) | exact .eff (.shl rfl rfl (by decide) (by decide)) | exact .eff (.conv rfl rfl rfl) | exact .eff (.strEq rfl rfl) | exact .eff (.strNe rfl rfl) | exact .eff (.mkFn) | exact .eff (.nilO rfl) | exact .eff (.nilF rfl) | exact .eff (.neg rfl) | exact .eff (.max rfl rfl) | exact .eff (.min rfl rfl) | exact .callG rfl rfl rfl (by first | exact fword_T _) rfl | (apply LEff.callBG; (· rfl); (· rfl); (· exact fword_T _); (· skip; repeat' (first | exact .nil | refine .cons ?_ ?_ | exact .le (.refl _) | exact .row rfl | exact .box rfl | exact .cut rfl (by omega) | exact .le .nil | refine .agg ?_ | refine .fn ?_ | fail)); (· rfl))); (· rfl); (· rfl))
      | (apply Ops.new; (· rfl); (· rfl); (· rfl); (· first | exact .eff (.box rfl) | exact .eff (.alloc rfl) | exact .eff (.bsliceS rfl rfl rfl rfl rfl) | exact .eff (.mkS rfl rfl rfl rfl (by omega) (by omega)) | exact .eff (.zeroS rfl rfl (by intro l hl; first | cases hl | exact ⟨_, by injection hl with hl; subst hl; rfl⟩) rfl rfl rfl)); (· first | rfl | (simp only [freshB, noRefH, OB.cells, refsL_fv, refsL_app]; rfl)))
      | (apply Ops.app; (· rfl); (· rfl); (· rfl); (· rfl); (· rfl); (· rfl); (· rfl); (· exact (by first | exact .nil | exact .own rfl (rmv_q (by first | exact (rfl : _ = []) | exact (rfl : _ = [_]) | exact (rfl : _ = [_, _]) | exact (rfl : _ = [_, _, _]) | exact (rfl : _ = [_, _, _, _]) | exact (rfl : _ = [_, _, _, _, _]) | exact (rfl : _ = [_, _, _, _, _, _]) | exact (rfl : _ = [_, _, _, _, _, _, _]) | exact (rfl : _ = [_, _, _, _, _, _, _, _]) | exact (rfl : _ = [_, _, _, _, _, _, _, _, _]) | exact (rfl : _ = [_, _, _, _, _, _, _, _, _, _]) | exact (rfl : _ = [_, _, _, _, _, _, _, _, _, _, _]) | exact (rfl : _ = [_, _, _, _, _, _, _, _, _, _, _, _]))))); (· exact (by first | exact .nil | exact .own rfl (by first | rfl | exact onesB_map _) | exact .fz (by first | rfl | (simp; done) | exact (flatMap_len (s := 1) (fun _ => rfl) _).trans (by omega)))); (· rfl); (· show (_ : Nat) ≤ 140737488355328; omega); (· first | rfl | (simp only [freshB, noRefH, OB.cells, refsL_fv, refsL_app]; rfl)))
      | (apply Ops.appS; (· rfl); (· rfl); (· rfl); (· rfl); (· rfl); (· rfl); (· rfl); (· rfl); (· rfl); (· exact (by first | exact .nil | exact .own rfl (rmv_q (by first | exact (rfl : _ = []) | exact (rfl : _ = [_]) | exact (rfl : _ = [_, _]) | exact (rfl : _ = [_, _, _]) | exact (rfl : _ = [_, _, _, _]) | exact (rfl : _ = [_, _, _, _, _]) | exact (rfl : _ = [_, _, _, _, _, _]) | exact (rfl : _ = [_, _, _, _, _, _, _]) | exact (rfl : _ = [_, _, _, _, _, _, _, _]) | exact (rfl : _ = [_, _, _, _, _, _, _, _, _]) | exact (rfl : _ = [_, _, _, _, _, _, _, _, _, _]) | exact (rfl : _ = [_, _, _, _, _, _, _, _, _, _, _]) | exact (rfl : _ = [_, _, _, _, _, _, _, _, _, _, _, _]))))); (· show (_ : Nat) ≤ 140737488355328; omega); (· first | rfl | (simp only [freshB, noRefH, OB.cells, refsL_fv, refsL_app]; rfl)))
      | (apply Ops.stoW; (· rfl); (· rfl); (· rfl); (· rfl); (· rfl); (· rfl); (· first | rfl | exact onesB_map _); (· rfl); (· exact rfl); (· exact (by repeat' (first | exact .here | apply Repl.there rfl))))
      | (apply Ops.stoB; (· rfl); (· rfl); (· rfl); (· rfl); (· rfl); (· rfl); (· first | rfl | exact onesB_map _); (· rfl); (· exact rfl); (· exact (by repeat' (first | exact .here | apply Repl.there rfl))))
      | (apply Ops.stoR; (· rfl); (· rfl); (· rfl); (· rfl); (· rfl); (· rfl); (· first | rfl | exact onesB_map _); (· rfl); (· exact rfl); (· exact (by repeat' (first | exact .here | apply Repl.there rfl))))
      | (apply Ops.gand; (· rfl); (· rfl); (· rfl); (· rfl); (· rfl); (· rfl); (· rfl); (· exact (by first | exact .b | exact .w)); (· rfl); (· rfl); (· rfl); (· simp); (· intro hc; first | exact hc | exact hc.1); (· intro hc; exact ⟨fun h => h.2, fun h => ⟨hc, h⟩⟩))
      | (apply Ops.gor; (· rfl); (· rfl); (· rfl); (· rfl); (· rfl); (· rfl); (· rfl); (· exact (by first | exact .b | exact .w)); (· rfl); (· rfl); (· rfl); (· simp); (· intro hc; first | exact hc | exact hc.1); (· intro hc; exact ⟨fun h => h.2, fun h => ⟨hc, h⟩⟩))
      | apply WP.drwL tbl_ok mixed_no rfl
      | ((with_reducible apply drwK.mk); (· kernel_rfl); (· first | rfl | (simp only [freeF, List.all_cons, List.all_nil, noRefH, OB.cells, refsL_fv, refsL_app]; rfl)))
      | fail)
    all_goals (try exact ([] : List Fp))
    · refine .f1 (.inl rfl) rfl ?_
      have : flFault f = 1 := if_pos (by simp at hcond; omega)
      rw [hff, hat, this, if_neg (by omega)]
    · refine .f1 (.inl rfl) rfl ?_
      have h1 : ¬ (12 < f.ms.length ∨ 100 < f.ds.length) := by rename_i h; simp at h; omega
      have : flFault f = 2 := by
        unfold flFault
        rw [if_neg h1, if_pos (by simp at hcond; simp [inR]; omega)]
      rw [hff, hat, this, if_neg (by omega)]
    rotate_left
    · exfalso
      simp at hcond
      omega
    have h1 : ¬ (12 < f.ms.length ∨ 100 < f.ds.length) := by rename_i h; simp at h; omega
    have h2 : ¬ (inR f.table 0 7 = false ∨ inR f.prio 0 2000 = false) := by simp at hcond; simp [inR]; omega
    have ht7 : 0 ≤ f.table ∧ f.table ≤ 7 := inR_iff.1 (by simp_all)
    have hfl : flFault f = if f.ms.all mxOk = false then 4 else if dxOk f.table f.ds = false then 4 else 0 := by
      unfold flFault
      rw [if_neg h1, if_neg h2]
    clear hcond
    refine WP.loop (ι := Nat) (fun j => ⟨[(12, .fv (slOf encFl l)), (13, .fv (.int .i64 l.length)), (14, .fv (.int .i64 k)), (4, .optr 4 0), (47, .fv (slOf encMx f.ms)), (48, .fv (.int .i64 f.ms.length)), (49, .fv (.int .i64 j))], [(4, .box 36 ((encFl f).map .fv))]⟩) (fun j => j ≤ f.ms.length ∧ f.ms.all mxOk = (f.ms.drop j).all mxOk) (fun j => f.ms.length - j) 0 ⟨by omega, rfl⟩ ?_ ?_
    · skip
      refine St.le_of ?_ ?_ <;> (repeat' (first | exact trivial | refine ⟨⟨_, rfl, .refl _⟩, ?_⟩ | refine ⟨⟨_, rfl, .any _⟩, ?_⟩ | refine ⟨⟨_, rfl, .of_eq ?_⟩, ?_⟩ | refine ⟨⟨_, rfl, fun _ _ _ _ h => h⟩, ?_⟩ | fail))
    rintro j ⟨hj, hjd⟩
    try dsimp only
    by_cases hjlt : j < f.ms.length
    case pos =>
      obtain ⟨m, hm⟩ : ∃ m, f.ms[j]? = some m := ⟨_, List.getElem?_eq_getElem hjlt⟩
      have hma := all_at (p := mxOk) hm
      have hmp := mxOk_prog m
      repeat' (first
        | (apply Ops.loc; (· rfl); (· rfl); (· rfl); (· first | (exact .eff (.idxS rfl rfl rfl encMx_len hm)) | exact .eff (.mv rfl) | exact .eff (.asg rfl) | exact .eff (.loadO rfl rfl rfl) | exact .eff (.loadF rfl rfl) | exact .eff (.fldO rfl rfl rfl) | exact .eff (.fldF rfl rfl rfl) | (refine .eff (.add64 rfl rfl ?_ ?_) <;> omega) | (refine .eff (.sub64 rfl rfl ?_ ?_) <;> omega) | exact .eff (.lenF rfl rfl) | exact .eff (.lenO rfl rfl rfl) | exact .eff (.lenN rfl rfl) | exact .eff (.lenS rfl rfl) | exact .eff (.isNilF rfl (by omega) rfl (flatMap_len (fun _ => rfl) _)) | exact .eff (.isNilO rfl rfl (by omega) rfl) | exact .eff (.isNilZ rfl rfl rfl) | exact .eff (.lenB rfl rfl) | exact .eff (.idxB rfl rfl rfl (by omega) (by omega)) | exact .eff (.oLH rfl rfl rfl rfl rfl (by omega) (by omega)) | exact .eff (.oL rfl rfl rfl rfl (by omega)) | exact .eff (.oH rfl rfl rfl rfl (by omega)) | exact .eff (.bLH rfl rfl rfl rfl rfl (by omega) (by omega)) | exact .eff (.or rfl rfl rfl) | exact .eff (.and rfl rfl rfl) | exact .eff (.not rfl) | exact .eff (.extract rfl rfl) | (refine .eff (.mul64 rfl rfl ?_ ?_) <;> omega) | exact .eff (.bin rfl rfl rfl) | (refine .eff (.quo64 rfl rfl ?_ ?_ ?_) <;> omega) | (refine .eff (.rem64 rfl rfl ?_ ?_) <;> omega) | exact .eff (.idxPO rfl rfl rfl (by omega) (by omega)) | exact .eff (.idxPF rfl rfl rfl (by omega) (by omega)) | exact .eff (.idxO rfl rfl rfl rfl (by omega) (by omega)) | exact .eff (.buildS rfl rfl rfl rfl) | exact .eff (.eqA rfl rfl rfl rfl rfl) | exact .eff (.neA rfl rfl rfl rfl rfl) | exact .eff (.quo rfl rfl (by decide)) | exact .eff (.rem rfl rfl (by decide)) | exact .eff (.shr rfl rfl (by decide) (by decide)) | exact .eff (.shl rfl rfl (by decide) (by decide)) | exact .eff (.conv rfl rfl rfl) | exact .eff (.strEq rfl rfl) | exact .eff (.strNe rfl rfl) | exact .eff (.mkFn) | exact .eff (.nilO rfl) | exact .eff (.nilF rfl) | exact .eff (.neg rfl) | exact .eff (.max rfl rfl) | exact .eff (.min rfl rfl) | exact .callL rfl rfl rfl (by first | exact fword_T _) rfl | (apply LEff.callBL; (· rfl); (· rfl); (· exact fword_T _); (· skip; repeat' (first | exact .nil | refine .cons ?_ ?_ | exact .le (.refl _) | exact .row rfl | exact .box rfl | exact .cut rfl (by omega) | exact .le .nil | refine .agg ?_ | refine .fn ?_ | fail)); (· rfl))))
        | with_reducible refine WP.seq ?_
        | with_reducible apply WP.reg tbl_ok rfl
        | with_reducible refine Ops.nil ?_
        | with_reducible refine thenQ.nor ?_
        | with_reducible refine thenQ.ex ?_
        | with_reducible refine thenQ.ret ?_
        | with_reducible refine blockQ.nor ?_
        | with_reducible refine blockQ.ret ?_
        | with_reducible refine blockQ.hit rfl ?_
        | with_reducible refine blockQ.out rfl ?_
        | with_reducible refine WP.block ?_
        | with_reducible refine WP.skip ?_
        | with_reducible refine WP.exit ?_
        | with_reducible refine WP.ret ?_
        | refine WP.condT rfl ?_
        | refine WP.condF rfl ?_
        | refine WP.condBit rfl ?_ ?_
        | (refine WP.cond rfl ?_ ?_ <;> intro hcond)
        | (apply Ops.gst; (· rfl); (· rfl); (· rfl); (· rfl); (· rfl); (· rfl); (· rfl); (· first | exact .b | exact .w); (· intro hc; repeat' (first | exact trivial | exact fun _ => hc | exact fun _ => hc.1 | exact fun _ => ⟨hc.1.1, hc.1.2⟩ | refine And.intro ?_ ?_)); (· intro hc; first | (exact .eff (.idxS rfl rfl rfl encMx_len hm)) | exact .eff (.mvG rfl) | exact .eff (.asg rfl) | exact .eff (.loadO rfl rfl rfl) | exact .eff (.loadF rfl rfl) | exact .eff (.fldO rfl rfl rfl) | exact .eff (.fldF rfl rfl rfl) | (refine .eff (.add64 rfl rfl ?_ ?_) <;> omega) | (refine .eff (.sub64 rfl rfl ?_ ?_) <;> omega) | exact .eff (.lenF rfl rfl) | exact .eff (.lenO rfl rfl rfl) | exact .eff (.lenN rfl rfl) | exact .eff (.lenS rfl rfl) | exact .eff (.isNilF rfl (by omega) rfl (flatMap_len (fun _ => rfl) _)) | exact .eff (.isNilO rfl rfl (by omega) rfl) | exact .eff (.isNilZ rfl rfl rfl) | exact .eff (.lenB rfl rfl) | exact .eff (.idxB rfl rfl rfl (by omega) (by omega)) | exact .eff (.oLH rfl rfl rfl rfl rfl (by omega) (by omega)) | exact .eff (.oL rfl rfl rfl rfl (by omega)) | exact .eff (.oH rfl rfl rfl rfl (by omega)) | exact .eff (.bLH rfl rfl rfl rfl rfl (by omega) (by omega)) | exact .eff (.or rfl rfl rfl) | exact .eff (.and rfl rfl rfl) | exact .eff (.not rfl) | exact .eff (.extract rfl rfl) | (refine .eff (.mul64 rfl rfl ?_ ?_) <;> omega) | exact .eff (.bin rfl rfl rfl) | (refine .eff (.quo64 rfl rfl ?_ ?_ ?_) <;> omega) | (refine .eff (.rem64 rfl rfl ?_ ?_) <;> omega) | exact .eff (.idxPO rfl rfl rfl (by omega) (by omega)) | exact .eff (.idxPF rfl rfl rfl (by omega) (by omega)) | exact .eff (.idxO rfl rfl rfl rfl (by omega) (by omega)) | exact .eff (.buildS rfl rfl rfl rfl) | exact .eff (.eqA rfl rfl rfl rfl rfl) | exact .eff (.neA rfl rfl rfl rfl rfl) | exact .eff (.quo rfl rfl (by decide)) | exact .eff (.rem rfl rfl (by decide)) | exact .eff (.shr rfl rfl (by decide) (by decide)) | exact .eff (.shl rfl rfl (by decide) (by decide)) | exact .eff (.conv rfl rfl rfl) | exact .eff (.strEq rfl rfl) | exact .eff (.strNe rfl rfl) | exact .eff (.mkFn) | exact .eff (.nilO rfl) | exact .eff (.nilF rfl) | exact .eff (.neg rfl) | exact .eff (.max rfl rfl) | exact .eff (.min rfl rfl) | exact .callG rfl rfl rfl (by first | exact fword_T _) rfl | (apply LEff.callBG; (· rfl); (· rfl); (· exact fword_T _); (· skip; repeat' (first | exact .nil | refine .cons ?_ ?_ | exact .le (.refl _) | exact .row rfl | exact .box rfl | exact .cut rfl (by omega) | exact .le .nil | refine .agg ?_ | refine .fn ?_ | fail)); (· rfl))); (· rfl); (· rfl))
        | (apply Ops.new; (· rfl); (· rfl); (· rfl); (· first | exact .eff (.box rfl) | exact .eff (.alloc rfl) | exact .eff (.bsliceS rfl rfl rfl rfl rfl) | exact .eff (.mkS rfl rfl rfl rfl (by omega) (by omega)) | exact .eff (.zeroS rfl rfl (by intro l hl; first | cases hl | exact ⟨_, by injection hl with hl; subst hl; rfl⟩) rfl rfl rfl)); (· first | rfl | (simp only [freshB, noRefH, OB.cells, refsL_fv, refsL_app]; rfl)))
        | (apply Ops.app; (· rfl); (· rfl); (· rfl); (· rfl); (· rfl); (· rfl); (· rfl); (· exact (by first | exact .nil | exact .own rfl (rmv_q (by first | exact (rfl : _ = []) | exact (rfl : _ = [_]) | exact (rfl : _ = [_, _]) | exact (rfl : _ = [_, _, _]) | exact (rfl : _ = [_, _, _, _]) | exact (rfl : _ = [_, _, _, _, _]) | exact (rfl : _ = [_, _, _, _, _, _]) | exact (rfl : _ = [_, _, _, _, _, _, _]) | exact (rfl : _ = [_, _, _, _, _, _, _, _]) | exact (rfl : _ = [_, _, _, _, _, _, _, _, _]) | exact (rfl : _ = [_, _, _, _, _, _, _, _, _, _]) | exact (rfl : _ = [_, _, _, _, _, _, _, _, _, _, _]) | exact (rfl : _ = [_, _, _, _, _, _, _, _, _, _, _, _]))))); (· exact (by first | exact .nil | exact .own rfl (by first | rfl | exact onesB_map _) | exact .fz (by first | rfl | (simp; done) | exact (flatMap_len (s := 1) (fun _ => rfl) _).trans (by omega)))); (· rfl); (· show (_ : Nat) ≤ 140737488355328; omega); (· first | rfl | (simp only [freshB, noRefH, OB.cells, refsL_fv, refsL_app]; rfl)))
        | (apply Ops.appS; (· rfl); (· rfl); (· rfl); (· rfl); (· rfl); (· rfl); (· rfl); (· rfl); (· rfl); (· exact (by first | exact .nil | exact .own rfl (rmv_q (by first | exact (rfl : _ = []) | exact (rfl : _ = [_]) | exact (rfl : _ = [_, _]) | exact (rfl : _ = [_, _, _]) | exact (rfl : _ = [_, _, _, _]) | exact (rfl : _ = [_, _, _, _, _]) | exact (rfl : _ = [_, _, _, _, _, _]) | exact (rfl : _ = [_, _, _, _, _, _, _]) | exact (rfl : _ = [_, _, _, _, _, _, _, _]) | exact (rfl : _ = [_, _, _, _, _, _, _, _, _]) | exact (rfl : _ = [_, _, _, _, _, _, _, _, _, _]) | exact (rfl : _ = [_, _, _, _, _, _, _, _, _, _, _]) | exact (rfl : _ = [_, _, _, _, _, _, _, _, _, _, _, _]))))); (· show (_ : Nat) ≤ 140737488355328; omega); (· first | rfl | (simp only [freshB, noRefH, OB.cells, refsL_fv, refsL_app]; rfl)))
        | (apply Ops.stoW; (· rfl); (· rfl); (· rfl); (· rfl); (· rfl); (· rfl); (· first | rfl | exact onesB_map _); (· rfl); (· exact rfl); (· exact (by repeat' (first | exact .here | apply Repl.there rfl))))
        | (apply Ops.stoB; (· rfl); (· rfl); (· rfl); (· rfl); (· rfl); (· rfl); (· first | rfl | exact onesB_map _); (· rfl); (· exact rfl); (· exact (by repeat' (first | exact .here | apply Repl.there rfl))))
        | (apply Ops.stoR; (· rfl); (· rfl); (· rfl); (· rfl); (· rfl); (· rfl); (· first | rfl | exact onesB_map _); (· rfl); (· exact rfl); (· exact (by repeat' (first | exact .here | apply Repl.there rfl))))
        | (apply Ops.gand; (· rfl); (· rfl); (· rfl); (· rfl); (· rfl); (· rfl); (· rfl); (· exact (by first | exact .b | exact .w)); (· rfl); (· rfl); (· rfl); (· simp); (· intro hc; first | exact hc | exact hc.1); (· intro hc; exact ⟨fun h => h.2, fun h => ⟨hc, h⟩⟩))
        | (apply Ops.gor; (· rfl); (· rfl); (· rfl); (· rfl); (· rfl); (· rfl); (· rfl); (· exact (by first | exact .b | exact .w)); (· rfl); (· rfl); (· rfl); (· simp); (· intro hc; first | exact hc | exact hc.1); (· intro hc; exact ⟨fun h => h.2, fun h => ⟨hc, h⟩⟩))
        | apply WP.drwL tbl_ok mixed_no rfl
        | ((with_reducible apply drwK.mk); (· kernel_rfl); (· first | rfl | (simp only [freeF, List.all_cons, List.all_nil, noRefH, OB.cells, refsL_fv, refsL_app]; rfl)))
        | fail)
      all_goals (try exact ([] : List Fp))
      · refine .f1 (.inl rfl) rfl ?_
        rw [hcond] at hmp
        have : flFault f = 4 := by rw [hfl, if_pos (by rw [hjd, hma, hmp]; rfl)]
        rw [hff, hat, this, if_neg (by omega)]
      · refine ⟨j + 1, ⟨by omega, ?_⟩, by omega, ?_⟩
        · rw [hcond] at hmp
          rw [hjd, hma, hmp]
          rfl
        · skip
          refine St.le_of ?_ ?_ <;> (repeat' (first | exact trivial | refine ⟨⟨_, rfl, .refl _⟩, ?_⟩ | refine ⟨⟨_, rfl, .any _⟩, ?_⟩ | refine ⟨⟨_, rfl, .of_eq ?_⟩, ?_⟩ | refine ⟨⟨_, rfl, fun _ _ _ _ h => h⟩, ?_⟩ | fail))
      · exfalso
        simp at hcond
        omega
    case neg =>
      have hall : f.ms.all mxOk = true := by rw [hjd, List.drop_of_length_le (by omega)]; rfl
      rw [if_neg (by rw [hall]; simp)] at hfl
      repeat' (first
        | (apply Ops.loc; (· rfl); (· rfl); (· rfl); (· first | exact .eff (.mv rfl) | exact .eff (.asg rfl) | exact .eff (.loadO rfl rfl rfl) | exact .eff (.loadF rfl rfl) | exact .eff (.fldO rfl rfl rfl) | exact .eff (.fldF rfl rfl rfl) | (refine .eff (.add64 rfl rfl ?_ ?_) <;> omega) | (refine .eff (.sub64 rfl rfl ?_ ?_) <;> omega) | exact .eff (.lenF rfl rfl) | exact .eff (.lenO rfl rfl rfl) | exact .eff (.lenN rfl rfl) | exact .eff (.lenS rfl rfl) | exact .eff (.isNilF rfl (by omega) rfl (flatMap_len (fun _ => rfl) _)) | exact .eff (.isNilO rfl rfl (by omega) rfl) | exact .eff (.isNilZ rfl rfl rfl) | exact .eff (.lenB rfl rfl) | exact .eff (.idxB rfl rfl rfl (by omega) (by omega)) | exact .eff (.oLH rfl rfl rfl rfl rfl (by omega) (by omega)) | exact .eff (.oL rfl rfl rfl rfl (by omega)) | exact .eff (.oH rfl rfl rfl rfl (by omega)) | exact .eff (.bLH rfl rfl rfl rfl rfl (by omega) (by omega)) | exact .eff (.or rfl rfl rfl) | exact .eff (.and rfl rfl rfl) | exact .eff (.not rfl) | exact .eff (.extract rfl rfl) | (refine .eff (.mul64 rfl rfl ?_ ?_) <;> omega) | exact .eff (.bin rfl rfl rfl) | (refine .eff (.quo64 rfl rfl ?_ ?_ ?_) <;> omega) | (refine .eff (.rem64 rfl rfl ?_ ?_) <;> omega) | exact .eff (.idxPO rfl rfl rfl (by omega) (by omega)) | exact .eff (.idxPF rfl rfl rfl (by omega) (by omega)) | exact .eff (.idxO rfl rfl rfl rfl (by omega) (by omega)) | exact .eff (.buildS rfl rfl rfl rfl) | exact .eff (.eqA rfl rfl rfl rfl rfl) | exact .eff (.neA rfl rfl rfl rfl rfl) | exact .eff (.quo rfl rfl (by decide)) | exact .eff (.rem rfl rfl (by decide)) | exact .eff (.shr rfl rfl (by decide) (by decide)) | exact .eff (.shl rfl rfl (by decide) (by decide)) | exact .eff (.conv rfl rfl rfl) | exact .eff (.strEq rfl rfl) | exact .eff (.strNe rfl rfl) | exact .eff (.mkFn) | exact .eff (.nilO rfl) | exact .eff (.nilF rfl) | exact .eff (.neg rfl) | exact .eff (.max rfl rfl) | exact .eff (.min rfl rfl)))
        | with_reducible refine WP.seq ?_
        | with_reducible apply WP.reg tbl_ok rfl
        | with_reducible refine Ops.nil ?_
        | with_reducible refine thenQ.nor ?_
        | with_reducible refine thenQ.ex ?_
        | with_reducible refine thenQ.ret ?_
        | with_reducible refine blockQ.nor ?_
        | with_reducible refine blockQ.ret ?_
        | with_reducible refine blockQ.hit rfl ?_
        | with_reducible refine blockQ.out rfl ?_
        | with_reducible refine WP.block ?_
        | with_reducible refine WP.skip ?_
        | with_reducible refine WP.exit ?_
        | with_reducible refine WP.ret ?_
        | refine WP.condT rfl ?_
        | refine WP.condF rfl ?_
        | refine WP.condBit rfl ?_ ?_
        | (refine WP.cond rfl ?_ ?_ <;> intro hcond)
        | (apply Ops.gst; (· rfl); (· rfl); (· rfl); (· rfl); (· rfl); (· rfl); (· rfl); (· first | exact .b | exact .w); (· intro hc; repeat' (first | exact trivial | exact fun _ => hc | exact fun _ => hc.1 | exact fun _ => ⟨hc.1.1, hc.1.2⟩ | refine And.intro ?_ ?_)); (· intro hc; first | exact .eff (.mvG rfl) | exact .eff (.asg rfl) | exact .eff (.loadO rfl rfl rfl) | exact .eff (.loadF rfl rfl) | exact .eff (.fldO rfl rfl rfl) | exact .eff (.fldF rfl rfl rfl) | (refine .eff (.add64 rfl rfl ?_ ?_) <;> omega) | (refine .eff (.sub64 rfl rfl ?_ ?_) <;> omega) | exact .eff (.lenF rfl rfl) | exact .eff (.lenO rfl rfl rfl) | exact .eff (.lenN rfl rfl) | exact .eff (.lenS rfl rfl) | exact .eff (.isNilF rfl (by omega) rfl (flatMap_len (fun _ => rfl) _)) | exact .eff (.isNilO rfl rfl (by omega) rfl) | exact .eff (.isNilZ rfl rfl rfl) | exact .eff (.lenB rfl rfl) | exact .eff (.idxB rfl rfl rfl (by omega) (by omega)) | exact .eff (.oLH rfl rfl rfl rfl rfl (by omega) (by omega)) | exact .eff (.oL rfl rfl rfl rfl (by omega)) | exact .eff (.oH rfl rfl rfl rfl (by omega)) | exact .eff (.bLH rfl rfl rfl rfl rfl (by omega) (by omega)) | exact .eff (.or rfl rfl rfl) | exact .eff (.and rfl rfl rfl) | exact .eff (.not rfl) | exact .eff (.extract rfl rfl) | (refine .eff (.mul64 rfl rfl ?_ ?_) <;> omega) | exact .eff (.bin rfl rfl rfl) | (refine .eff (.quo64 rfl rfl ?_ ?_ ?_) <;> omega) | (refine .eff (.rem64 rfl rfl ?_ ?_) <;> omega) | exact .eff (.idxPO rfl rfl rfl (by omega) (by omega)) | exact .eff (.idxPF rfl rfl rfl (by omega) (by omega)) | exact .eff (.idxO rfl rfl rfl rfl (by omega) (by omega)) | exact .eff (.buildS rfl rfl rfl rfl) | exact .eff (.eqA rfl rfl rfl rfl rfl) | exact .eff (.neA rfl rfl rfl rfl rfl) | exact .eff (.quo rfl rfl (by decide)) | exact .eff (.rem rfl rfl (by decide)) | exact .eff (.shr rfl rfl (by decide) (by decide)) | exact .eff (.shl rfl rfl (by decide) (by decide)) | exact .eff (.conv rfl rfl rfl) | exact .eff (.strEq rfl rfl) | exact .eff (.strNe rfl rfl) | exact .eff (.mkFn) | exact .eff (.nilO rfl) | exact .eff (.nilF rfl) | exact .eff (.neg rfl) | exact .eff (.max rfl rfl) | exact .eff (.min rfl rfl)); (· rfl); (· rfl))
        | (apply Ops.new; (· rfl); (· rfl); (· rfl); (· first | exact .eff (.box rfl) | exact .eff (.alloc rfl) | exact .eff (.bsliceS rfl rfl rfl rfl rfl) | exact .eff (.mkS rfl rfl rfl rfl (by omega) (by omega)) | exact .eff (.zeroS rfl rfl (by intro l hl; first | cases hl | exact ⟨_, by injection hl with hl; subst hl; rfl⟩) rfl rfl rfl)); (· first | rfl | (simp only [freshB, noRefH, OB.cells, refsL_fv, refsL_app]; rfl)))
        | (apply Ops.app; (· rfl); (· rfl); (· rfl); (· rfl); (· rfl); (· rfl); (· rfl); (· exact (by first | exact .nil | exact .own rfl (rmv_q (by first | exact (rfl : _ = []) | exact (rfl : _ = [_]) | exact (rfl : _ = [_, _]) | exact (rfl : _ = [_, _, _]) | exact (rfl : _ = [_, _, _, _]) | exact (rfl : _ = [_, _, _, _, _]) | exact (rfl : _ = [_, _, _, _, _, _]) | exact (rfl : _ = [_, _, _, _, _, _, _]) | exact (rfl : _ = [_, _, _, _, _, _, _, _]) | exact (rfl : _ = [_, _, _, _, _, _, _, _, _]) | exact (rfl : _ = [_, _, _, _, _, _, _, _, _, _]) | exact (rfl : _ = [_, _, _, _, _, _, _, _, _, _, _]) | exact (rfl : _ = [_, _, _, _, _, _, _, _, _, _, _, _]))))); (· exact (by first | exact .nil | exact .own rfl (by first | rfl | exact onesB_map _) | exact .fz (by first | rfl | (simp; done) | exact (flatMap_len (s := 1) (fun _ => rfl) _).trans (by omega)))); (· rfl); (· show (_ : Nat) ≤ 140737488355328; omega); (· first | rfl | (simp only [freshB, noRefH, OB.cells, refsL_fv, refsL_app]; rfl)))
        | (apply Ops.appS; (· rfl); (· rfl); (· rfl); (· rfl); (· rfl); (· rfl); (· rfl); (· rfl); (· rfl); (· exact (by first | exact .nil | exact .own rfl (rmv_q (by first | exact (rfl : _ = []) | exact (rfl : _ = [_]) | exact (rfl : _ = [_, _]) | exact (rfl : _ = [_, _, _]) | exact (rfl : _ = [_, _, _, _]) | exact (rfl : _ = [_, _, _, _, _]) | exact (rfl : _ = [_, _, _, _, _, _]) | exact (rfl : _ = [_, _, _, _, _, _, _]) | exact (rfl : _ = [_, _, _, _, _, _, _, _]) | exact (rfl : _ = [_, _, _, _, _, _, _, _, _]) | exact (rfl : _ = [_, _, _, _, _, _, _, _, _, _]) | exact (rfl : _ = [_, _, _, _, _, _, _, _, _, _, _]) | exact (rfl : _ = [_, _, _, _, _, _, _, _, _, _, _, _]))))); (· show (_ : Nat) ≤ 140737488355328; omega); (· first | rfl | (simp only [freshB, noRefH, OB.cells, refsL_fv, refsL_app]; rfl)))
        | (apply Ops.stoW; (· rfl); (· rfl); (· rfl); (· rfl); (· rfl); (· rfl); (· first | rfl | exact onesB_map _); (· rfl); (· exact rfl); (· exact (by repeat' (first | exact .here | apply Repl.there rfl))))
        | (apply Ops.stoB; (· rfl); (· rfl); (· rfl); (· rfl); (· rfl); (· rfl); (· first | rfl | exact onesB_map _); (· rfl); (· exact rfl); (· exact (by repeat' (first | exact .here | apply Repl.there rfl))))
        | (apply Ops.stoR; (· rfl); (· rfl); (· rfl); (· rfl); (· rfl); (· rfl); (· first | rfl | exact onesB_map _); (· rfl); (· exact rfl); (· exact (by repeat' (first | exact .here | apply Repl.there rfl))))
        | (apply Ops.gand; (· rfl); (· rfl); (· rfl); (· rfl); (· rfl); (· rfl); (· rfl); (· exact (by first | exact .b | exact .w)); (· rfl); (· rfl); (· rfl); (· simp); (· intro hc; first | exact hc | exact hc.1); (· intro hc; exact ⟨fun h => h.2, fun h => ⟨hc, h⟩⟩))
        | (apply Ops.gor; (· rfl); (· rfl); (· rfl); (· rfl); (· rfl); (· rfl); (· rfl); (· exact (by first | exact .b | exact .w)); (· rfl); (· rfl); (· rfl); (· simp); (· intro hc; first | exact hc | exact hc.1); (· intro hc; exact ⟨fun h => h.2, fun h => ⟨hc, h⟩⟩))
        | apply WP.drwL tbl_ok mixed_no rfl
        | ((with_reducible apply drwK.mk); (· kernel_rfl); (· first | rfl | (simp only [freeF, List.all_cons, List.all_nil, noRefH, OB.cells, refsL_fv, refsL_app]; rfl)))
        | fail)
      all_goals (try exact ([] : List Fp))
      · exfalso
        simp at hcond
        omega
      clear hcond
      refine WP.loop (ι := Nat) (fun j => ⟨[(12, .fv (slOf encFl l)), (13, .fv (.int .i64 l.length)), (14, .fv (.int .i64 k)), (4, .optr 4 0), (83, .fv (slOf encDx f.ds)), (84, .fv (.int .i64 f.ds.length)), (85, .fv (.int .i64 j))], [(4, .box 36 ((encFl f).map .fv))]⟩) (fun j => j ≤ f.ds.length ∧ dxOk f.table f.ds = dxOk f.table (f.ds.drop j)) (fun j => f.ds.length - j) 0 ⟨by omega, rfl⟩ ?_ ?_
      · skip
        refine St.le_of ?_ ?_ <;> (repeat' (first | exact trivial | refine ⟨⟨_, rfl, .refl _⟩, ?_⟩ | refine ⟨⟨_, rfl, .any _⟩, ?_⟩ | refine ⟨⟨_, rfl, .of_eq ?_⟩, ?_⟩ | refine ⟨⟨_, rfl, fun _ _ _ _ h => h⟩, ?_⟩ | fail))
      rintro j ⟨hj, hjd⟩
      try dsimp only
      by_cases hjlt : j < f.ds.length
      case pos =>
        obtain ⟨d, hm⟩ : ∃ m, f.ds[j]? = some m := ⟨_, List.getElem?_eq_getElem hjlt⟩
        have hma := dxOk_at (t := f.table) hm
        have hbq : (((j : Int)) != (f.ds.length : Int) - 1) = !decide (j + 1 = f.ds.length) := by
          rw [Bool.eq_iff_iff]
          simp
          omega
        rw [dxMay_last, ← hbq] at hma
        repeat' (first
          | (apply Ops.loc; (· rfl); (· rfl); (· rfl); (· first | (exact .eff (.idxS rfl rfl rfl encDx_len hm)) | exact .eff (.mv rfl) | exact .eff (.asg rfl) | exact .eff (.loadO rfl rfl rfl) | exact .eff (.loadF rfl rfl) | exact .eff (.fldO rfl rfl rfl) | exact .eff (.fldF rfl rfl rfl) | (refine .eff (.add64 rfl rfl ?_ ?_) <;> omega) | (refine .eff (.sub64 rfl rfl ?_ ?_) <;> omega) | exact .eff (.lenF rfl rfl) | exact .eff (.lenO rfl rfl rfl) | exact .eff (.lenN rfl rfl) | exact .eff (.lenS rfl rfl) | exact .eff (.isNilF rfl (by omega) rfl (flatMap_len (fun _ => rfl) _)) | exact .eff (.isNilO rfl rfl (by omega) rfl) | exact .eff (.isNilZ rfl rfl rfl) | exact .eff (.lenB rfl rfl) | exact .eff (.idxB rfl rfl rfl (by omega) (by omega)) | exact .eff (.oLH rfl rfl rfl rfl rfl (by omega) (by omega)) | exact .eff (.oL rfl rfl rfl rfl (by omega)) | exact .eff (.oH rfl rfl rfl rfl (by omega)) | exact .eff (.bLH rfl rfl rfl rfl rfl (by omega) (by omega)) | exact .eff (.or rfl rfl rfl) | exact .eff (.and rfl rfl rfl) | exact .eff (.not rfl) | exact .eff (.extract rfl rfl) | (refine .eff (.mul64 rfl rfl ?_ ?_) <;> omega) | exact .eff (.bin rfl rfl rfl) | (refine .eff (.quo64 rfl rfl ?_ ?_ ?_) <;> omega) | (refine .eff (.rem64 rfl rfl ?_ ?_) <;> omega) | exact .eff (.idxPO rfl rfl rfl (by omega) (by omega)) | exact .eff (.idxPF rfl rfl rfl (by omega) (by omega)) | exact .eff (.idxO rfl rfl rfl rfl (by omega) (by omega)) | exact .eff (.buildS rfl rfl rfl rfl) | exact .eff (.eqA rfl rfl rfl rfl rfl) | exact .eff (.neA rfl rfl rfl rfl rfl) | exact .eff (.quo rfl rfl (by decide)) | exact .eff (.rem rfl rfl (by decide)) | exact .eff (.shr rfl rfl (by decide) (by decide)) | exact .eff (.shl rfl rfl (by decide) (by decide)) | exact .eff (.conv rfl rfl rfl) | exact .eff (.strEq rfl rfl) | exact .eff (.strNe rfl rfl) | exact .eff (.mkFn) | exact .eff (.nilO rfl) | exact .eff (.nilF rfl) | exact .eff (.neg rfl) | exact .eff (.max rfl rfl) | exact .eff (.min rfl rfl) | exact .callL rfl rfl rfl (by first | exact does_T _ _ ht7) rfl | (apply LEff.callBL; (· rfl); (· rfl); (· exact does_T _ _ ht7); (· skip; repeat' (first | exact .nil | refine .cons ?_ ?_ | exact .le (.refl _) | exact .row rfl | exact .box rfl | exact .cut rfl (by omega) | exact .le .nil | refine .agg ?_ | refine .fn ?_ | fail)); (· rfl))))
          | with_reducible refine WP.seq ?_
          | with_reducible apply WP.reg tbl_ok rfl
          | with_reducible refine Ops.nil ?_
          | with_reducible refine thenQ.nor ?_
          | with_reducible refine thenQ.ex ?_
          | with_reducible refine thenQ.ret ?_
          | with_reducible refine blockQ.nor ?_
          | with_reducible refine blockQ.ret ?_
          | with_reducible refine blockQ.hit rfl ?_
          | with_reducible refine blockQ.out rfl ?_
          | with_reducible refine WP.block ?_
          | with_reducible refine WP.skip ?_
          | with_reducible refine WP.exit ?_
          | with_reducible refine WP.ret ?_
          | refine WP.condT rfl ?_
          | refine WP.condF rfl ?_
          | refine WP.condBit rfl ?_ ?_
          | (refine WP.cond rfl ?_ ?_ <;> intro hcond)
          | (apply Ops.gst; (· rfl); (· rfl); (· rfl); (· rfl); (· rfl); (· rfl); (· rfl); (· first | exact .b | exact .w); (· intro hc; repeat' (first | exact trivial | exact fun _ => hc | exact fun _ => hc.1 | exact fun _ => ⟨hc.1.1, hc.1.2⟩ | refine And.intro ?_ ?_)); (· intro hc; first | (exact .eff (.idxS rfl rfl rfl encDx_len hm)) | exact .eff (.mvG rfl) | exact .eff (.asg rfl) | exact .eff (.loadO rfl rfl rfl) | exact .eff (.loadF rfl rfl) | exact .eff (.fldO rfl rfl rfl) | exact .eff (.fldF rfl rfl rfl) | (refine .eff (.add64 rfl rfl ?_ ?_) <;> omega) | (refine .eff (.sub64 rfl rfl ?_ ?_) <;> omega) | exact .eff (.lenF rfl rfl) | exact .eff (.lenO rfl rfl rfl) | exact .eff (.lenN rfl rfl) | exact .eff (.lenS rfl rfl) | exact .eff (.isNilF rfl (by omega) rfl (flatMap_len (fun _ => rfl) _)) | exact .eff (.isNilO rfl rfl (by omega) rfl) | exact .eff (.isNilZ rfl rfl rfl) | exact .eff (.lenB rfl rfl) | exact .eff (.idxB rfl rfl rfl (by omega) (by omega)) | exact .eff (.oLH rfl rfl rfl rfl rfl (by omega) (by omega)) | exact .eff (.oL rfl rfl rfl rfl (by omega)) | exact .eff (.oH rfl rfl rfl rfl (by omega)) | exact .eff (.bLH rfl rfl rfl rfl rfl (by omega) (by omega)) | exact .eff (.or rfl rfl rfl) | exact .eff (.and rfl rfl rfl) | exact .eff (.not rfl) | exact .eff (.extract rfl rfl) | (refine .eff (.mul64 rfl rfl ?_ ?_) <;> omega) | exact .eff (.bin rfl rfl rfl) | (refine .eff (.quo64 rfl rfl ?_ ?_ ?_) <;> omega) | (refine .eff (.rem64 rfl rfl ?_ ?_) <;> omega) | exact .eff (.idxPO rfl rfl rfl (by omega) (by omega)) | exact .eff (.idxPF rfl rfl rfl (by omega) (by omega)) | exact .eff (.idxO rfl rfl rfl rfl (by omega) (by omega)) | exact .eff (.buildS rfl rfl rfl rfl) | exact .eff (.eqA rfl rfl rfl rfl rfl) | exact .eff (.neA rfl rfl rfl rfl rfl) | exact .eff (.quo rfl rfl (by decide)) | exact .eff (.rem rfl rfl (by decide)) | exact .eff (.shr rfl rfl (by decide) (by decide)) | exact .eff (.shl rfl rfl (by decide) (by decide)) | exact .eff (.conv rfl rfl rfl) | exact .eff (.strEq rfl rfl) | exact .eff (.strNe rfl rfl) | exact .eff (.mkFn) | exact .eff (.nilO rfl) | exact .eff (.nilF rfl) | exact .eff (.neg rfl) | exact .eff (.max rfl rfl) | exact .eff (.min rfl rfl) | exact .callG rfl rfl rfl (by first | exact does_T _ _ ht7) rfl | (apply LEff.callBG; (· rfl); (· rfl); (· exact does_T _ _ ht7); (· skip; repeat' (first | exact .nil | refine .cons ?_ ?_ | exact .le (.refl _) | exact .row rfl | exact .box rfl | exact .cut rfl (by omega) | exact .le .nil | refine .agg ?_ | refine .fn ?_ | fail)); (· rfl))); (· rfl); (· rfl))
          | (apply Ops.new; (· rfl); (· rfl); (· rfl); (· first | exact .eff (.box rfl) | exact .eff (.alloc rfl) | exact .eff (.bsliceS rfl rfl rfl rfl rfl) | exact .eff (.mkS rfl rfl rfl rfl (by omega) (by omega)) | exact .eff (.zeroS rfl rfl (by intro l hl; first | cases hl | exact ⟨_, by injection hl with hl; subst hl; rfl⟩) rfl rfl rfl)); (· first | rfl | (simp only [freshB, noRefH, OB.cells, refsL_fv, refsL_app]; rfl)))
          | (apply Ops.app; (· rfl); (· rfl); (· rfl); (· rfl); (· rfl); (· rfl); (· rfl); (· exact (by first | exact .nil | exact .own rfl (rmv_q (by first | exact (rfl : _ = []) | exact (rfl : _ = [_]) | exact (rfl : _ = [_, _]) | exact (rfl : _ = [_, _, _]) | exact (rfl : _ = [_, _, _, _]) | exact (rfl : _ = [_, _, _, _, _]) | exact (rfl : _ = [_, _, _, _, _, _]) | exact (rfl : _ = [_, _, _, _, _, _, _]) | exact (rfl : _ = [_, _, _, _, _, _, _, _]) | exact (rfl : _ = [_, _, _, _, _, _, _, _, _]) | exact (rfl : _ = [_, _, _, _, _, _, _, _, _, _]) | exact (rfl : _ = [_, _, _, _, _, _, _, _, _, _, _]) | exact (rfl : _ = [_, _, _, _, _, _, _, _, _, _, _, _]))))); (· exact (by first | exact .nil | exact .own rfl (by first | rfl | exact onesB_map _) | exact .fz (by first | rfl | (simp; done) | exact (flatMap_len (s := 1) (fun _ => rfl) _).trans (by omega)))); (· rfl); (· show (_ : Nat) ≤ 140737488355328; omega); (· first | rfl | (simp only [freshB, noRefH, OB.cells, refsL_fv, refsL_app]; rfl)))
          | (apply Ops.appS; (· rfl); (· rfl); (· rfl); (· rfl); (· rfl); (· rfl); (· rfl); (· rfl); (· rfl); (· exact (by first | exact .nil | exact .own rfl (rmv_q (by first | exact (rfl : _ = []) | exact (rfl : _ = [_]) | exact (rfl : _ = [_, _]) | exact (rfl : _ = [_, _, _]) | exact (rfl : _ = [_, _, _, _]) | exact (rfl : _ = [_, _, _, _, _]) | exact (rfl : _ = [_, _, _, _, _, _]) | exact (rfl : _ = [_, _, _, _, _, _, _]) | exact (rfl : _ = [_, _, _, _, _, _, _, _]) | exact (rfl : _ = [_, _, _, _, _, _, _, _, _]) | exact (rfl : _ = [_, _, _, _, _, _, _, _, _, _]) | exact (rfl : _ = [_, _, _, _, _, _, _, _, _, _, _]) | exact (rfl : _ = [_, _, _, _, _, _, _, _, _, _, _, _]))))); (· show (_ : Nat) ≤ 140737488355328; omega); (· first | rfl | (simp only [freshB, noRefH, OB.cells, refsL_fv, refsL_app]; rfl)))
          | (apply Ops.stoW; (· rfl); (· rfl); (· rfl); (· rfl); (· rfl); (· rfl); (· first | rfl | exact onesB_map _); (· rfl); (· exact rfl); (· exact (by repeat' (first | exact .here | apply Repl.there rfl))))
          | (apply Ops.stoB; (· rfl); (· rfl); (· rfl); (· rfl); (· rfl); (· rfl); (· first | rfl | exact onesB_map _); (· rfl); (· exact rfl); (· exact (by repeat' (first | exact .here | apply Repl.there rfl))))
          | (apply Ops.stoR; (· rfl); (· rfl); (· rfl); (· rfl); (· rfl); (· rfl); (· first | rfl | exact onesB_map _); (· rfl); (· exact rfl); (· exact (by repeat' (first | exact .here | apply Repl.there rfl))))
          | (apply Ops.gand; (· rfl); (· rfl); (· rfl); (· rfl); (· rfl); (· rfl); (· rfl); (· exact (by first | exact .b | exact .w)); (· rfl); (· rfl); (· rfl); (· simp); (· intro hc; first | exact hc | exact hc.1); (· intro hc; exact ⟨fun h => h.2, fun h => ⟨hc, h⟩⟩))
          | (apply Ops.gor; (· rfl); (· rfl); (· rfl); (· rfl); (· rfl); (· rfl); (· rfl); (· exact (by first | exact .b | exact .w)); (· rfl); (· rfl); (· rfl); (· simp); (· intro hc; first | exact hc | exact hc.1); (· intro hc; exact ⟨fun h => h.2, fun h => ⟨hc, h⟩⟩))
          | apply WP.drwL tbl_ok mixed_no rfl
          | ((with_reducible apply drwK.mk); (· kernel_rfl); (· first | rfl | (simp only [freeF, List.all_cons, List.all_nil, noRefH, OB.cells, refsL_fv, refsL_app]; rfl)))
          | fail)
        all_goals (try exact ([] : List Fp))
        · refine .f1 (.inl rfl) rfl ?_
          have h3 : dxOk f.table f.ds = false := by
            rw [hjd, hma]
            generalize dxMay d f.table true = p at hcond ⊢
            generalize (d.kind == 4 && ((j : Int) != (f.ds.length : Int) - 1)) = q at hcond ⊢
            cases p <;> cases q <;> simp at hcond ⊢
          have : flFault f = 4 := by rw [hfl, if_pos h3]
          rw [hff, hat, this, if_neg (by omega)]
        · refine ⟨j + 1, ⟨by omega, ?_⟩, by omega, ?_⟩
          · rw [hjd, hma]
            generalize dxMay d f.table true = p at hcond ⊢
            generalize (d.kind == 4 && ((j : Int) != (f.ds.length : Int) - 1)) = q at hcond ⊢
            cases p <;> cases q <;> simp at hcond ⊢
          · skip
            refine St.le_of ?_ ?_ <;> (repeat' (first | exact trivial | refine ⟨⟨_, rfl, .refl _⟩, ?_⟩ | refine ⟨⟨_, rfl, .any _⟩, ?_⟩ | refine ⟨⟨_, rfl, .of_eq ?_⟩, ?_⟩ | refine ⟨⟨_, rfl, fun _ _ _ _ h => h⟩, ?_⟩ | fail))
        · exfalso
          simp at hcond
          omega
      case neg =>
        have hall : dxOk f.table f.ds = true := by rw [hjd, List.drop_of_length_le (by omega)]; rfl
        rw [if_neg (by rw [hall]; simp)] at hfl
        rw [hfl, if_pos rfl] at hat
        repeat' (first
          | (apply Ops.loc; (· rfl); (· rfl); (· rfl); (· first | exact .eff (.mv rfl) | exact .eff (.asg rfl) | exact .eff (.loadO rfl rfl rfl) | exact .eff (.loadF rfl rfl) | exact .eff (.fldO rfl rfl rfl) | exact .eff (.fldF rfl rfl rfl) | (refine .eff (.add64 rfl rfl ?_ ?_) <;> omega) | (refine .eff (.sub64 rfl rfl ?_ ?_) <;> omega) | exact .eff (.lenF rfl rfl) | exact .eff (.lenO rfl rfl rfl) | exact .eff (.lenN rfl rfl) | exact .eff (.lenS rfl rfl) | exact .eff (.isNilF rfl (by omega) rfl (flatMap_len (fun _ => rfl) _)) | exact .eff (.isNilO rfl rfl (by omega) rfl) | exact .eff (.isNilZ rfl rfl rfl) | exact .eff (.lenB rfl rfl) | exact .eff (.idxB rfl rfl rfl (by omega) (by omega)) | exact .eff (.oLH rfl rfl rfl rfl rfl (by omega) (by omega)) | exact .eff (.oL rfl rfl rfl rfl (by omega)) | exact .eff (.oH rfl rfl rfl rfl (by omega)) | exact .eff (.bLH rfl rfl rfl rfl rfl (by omega) (by omega)) | exact .eff (.or rfl rfl rfl) | exact .eff (.and rfl rfl rfl) | exact .eff (.not rfl) | exact .eff (.extract rfl rfl) | (refine .eff (.mul64 rfl rfl ?_ ?_) <;> omega) | exact .eff (.bin rfl rfl rfl) | (refine .eff (.quo64 rfl rfl ?_ ?_ ?_) <;> omega) | (refine .eff (.rem64 rfl rfl ?_ ?_) <;> omega) | exact .eff (.idxPO rfl rfl rfl (by omega) (by omega)) | exact .eff (.idxPF rfl rfl rfl (by omega) (by omega)) | exact .eff (.idxO rfl rfl rfl rfl (by omega) (by omega)) | exact .eff (.buildS rfl rfl rfl rfl) | exact .eff (.eqA rfl rfl rfl rfl rfl) | exact .eff (.neA rfl rfl rfl rfl rfl) | exact .eff (.quo rfl rfl (by decide)) | exact .eff (.rem rfl rfl (by decide)) | exact .eff (.shr rfl rfl (by decide) (by decide)) | exact .eff (.shl rfl rfl (by decide) (by decide)) | exact .eff (.conv rfl rfl rfl) | exact .eff (.strEq rfl rfl) | exact .eff (.strNe rfl rfl) | exact .eff (.mkFn) | exact .eff (.nilO rfl) | exact .eff (.nilF rfl) | exact .eff (.neg rfl) | exact .eff (.max rfl rfl) | exact .eff (.min rfl rfl)))
          | with_reducible refine WP.seq ?_
          | with_reducible apply WP.reg tbl_ok rfl
          | with_reducible refine Ops.nil ?_
          | with_reducible refine thenQ.nor ?_
          | with_reducible refine thenQ.ex ?_
          | with_reducible refine thenQ.ret ?_
          | with_reducible refine blockQ.nor ?_
          | with_reducible refine blockQ.ret ?_
          | with_reducible refine blockQ.hit rfl ?_
          | with_reducible refine blockQ.out rfl ?_
          | with_reducible refine WP.block ?_
          | with_reducible refine WP.skip ?_
          | with_reducible refine WP.exit ?_
          | with_reducible refine WP.ret ?_
          | refine WP.condT rfl ?_
          | refine WP.condF rfl ?_
          | refine WP.condBit rfl ?_ ?_
          | (refine WP.cond rfl ?_ ?_ <;> intro hcond)
          | (apply Ops.gst; (· rfl); (· rfl); (· rfl); (· rfl); (· rfl); (· rfl); (· rfl); (· first | exact .b | exact .w); (· intro hc; repeat' (first | exact trivial | exact fun _ => hc | exact fun _ => hc.1 | exact fun _ => ⟨hc.1.1, hc.1.2⟩ | refine And.intro ?_ ?_)); (· intro hc; first | exact .eff (.mvG rfl) | exact .eff (.asg rfl) | exact .eff (.loadO rfl rfl rfl) | exact .eff (.loadF rfl rfl) | exact .eff (.fldO rfl rfl rfl) | exact .eff (.fldF rfl rfl rfl) | (refine .eff (.add64 rfl rfl ?_ ?_) <;> omega) | (refine .eff (.sub64 rfl rfl ?_ ?_) <;> omega) | exact .eff (.lenF rfl rfl) | exact .eff (.lenO rfl rfl rfl) | exact .eff (.lenN rfl rfl) | exact .eff (.lenS rfl rfl) | exact .eff (.isNilF rfl (by omega) rfl (flatMap_len (fun _ => rfl) _)) | exact .eff (.isNilO rfl rfl (by omega) rfl) | exact .eff (.isNilZ rfl rfl rfl) | exact .eff (.lenB rfl rfl) | exact .eff (.idxB rfl rfl rfl (by omega) (by omega)) | exact .eff (.oLH rfl rfl rfl rfl rfl (by omega) (by omega)) | exact .eff (.oL rfl rfl rfl rfl (by omega)) | exact .eff (.oH rfl rfl rfl rfl (by omega)) | exact .eff (.bLH rfl rfl rfl rfl rfl (by omega) (by omega)) | exact .eff (.or rfl rfl rfl) | exact .eff (.and rfl rfl rfl) | exact .eff (.not rfl) | exact .eff (.extract rfl rfl) | (refine .eff (.mul64 rfl rfl ?_ ?_) <;> omega) | exact .eff (.bin rfl rfl rfl) | (refine .eff (.quo64 rfl rfl ?_ ?_ ?_) <;> omega) | (refine .eff (.rem64 rfl rfl ?_ ?_) <;> omega) | exact .eff (.idxPO rfl rfl rfl (by omega) (by omega)) | exact .eff (.idxPF rfl rfl rfl (by omega) (by omega)) | exact .eff (.idxO rfl rfl rfl rfl (by omega) (by omega)) | exact .eff (.buildS rfl rfl rfl rfl) | exact .eff (.eqA rfl rfl rfl rfl rfl) | exact .eff (.neA rfl rfl rfl rfl rfl) | exact .eff (.quo rfl rfl (by decide)) | exact .eff (.rem rfl rfl (by decide)) | exact .eff (.shr rfl rfl (by decide) (by decide)) | exact .eff (.shl rfl rfl (by decide) (by decide)) | exact .eff (.conv rfl rfl rfl) | exact .eff (.strEq rfl rfl) | exact .eff (.strNe rfl rfl) | exact .eff (.mkFn) | exact .eff (.nilO rfl) | exact .eff (.nilF rfl) | exact .eff (.neg rfl) | exact .eff (.max rfl rfl) | exact .eff (.min rfl rfl)); (· rfl); (· rfl))
          | (apply Ops.new; (· rfl); (· rfl); (· rfl); (· first | exact .eff (.box rfl) | exact .eff (.alloc rfl) | exact .eff (.bsliceS rfl rfl rfl rfl rfl) | exact .eff (.mkS rfl rfl rfl rfl (by omega) (by omega)) | exact .eff (.zeroS rfl rfl (by intro l hl; first | cases hl | exact ⟨_, by injection hl with hl; subst hl; rfl⟩) rfl rfl rfl)); (· first | rfl | (simp only [freshB, noRefH, OB.cells, refsL_fv, refsL_app]; rfl)))
          | (apply Ops.app; (· rfl); (· rfl); (· rfl); (· rfl); (· rfl); (· rfl); (· rfl); (· exact (by first | exact .nil | exact .own rfl (rmv_q (by first | exact (rfl : _ = []) | exact (rfl : _ = [_]) | exact (rfl : _ = [_, _]) | exact (rfl : _ = [_, _, _]) | exact (rfl : _ = [_, _, _, _]) | exact (rfl : _ = [_, _, _, _, _]) | exact (rfl : _ = [_, _, _, _, _, _]) | exact (rfl : _ = [_, _, _, _, _, _, _]) | exact (rfl : _ = [_, _, _, _, _, _, _, _]) | exact (rfl : _ = [_, _, _, _, _, _, _, _, _]) | exact (rfl : _ = [_, _, _, _, _, _, _, _, _, _]) | exact (rfl : _ = [_, _, _, _, _, _, _, _, _, _, _]) | exact (rfl : _ = [_, _, _, _, _, _, _, _, _, _, _, _]))))); (· exact (by first | exact .nil | exact .own rfl (by first | rfl | exact onesB_map _) | exact .fz (by first | rfl | (simp; done) | exact (flatMap_len (s := 1) (fun _ => rfl) _).trans (by omega)))); (· rfl); (· show (_ : Nat) ≤ 140737488355328; omega); (· first | rfl | (simp only [freshB, noRefH, OB.cells, refsL_fv, refsL_app]; rfl)))
          | (apply Ops.appS; (· rfl); (· rfl); (· rfl); (· rfl); (· rfl); (· rfl); (· rfl); (· rfl); (· rfl); (· exact (by first | exact .nil | exact .own rfl (rmv_q (by first | exact (rfl : _ = []) | exact (rfl : _ = [_]) | exact (rfl : _ = [_, _]) | exact (rfl : _ = [_, _, _]) | exact (rfl : _ = [_, _, _, _]) | exact (rfl : _ = [_, _, _, _, _]) | exact (rfl : _ = [_, _, _, _, _, _]) | exact (rfl : _ = [_, _, _, _, _, _, _]) | exact (rfl : _ = [_, _, _, _, _, _, _, _]) | exact (rfl : _ = [_, _, _, _, _, _, _, _, _]) | exact (rfl : _ = [_, _, _, _, _, _, _, _, _, _]) | exact (rfl : _ = [_, _, _, _, _, _, _, _, _, _, _]) | exact (rfl : _ = [_, _, _, _, _, _, _, _, _, _, _, _]))))); (· show (_ : Nat) ≤ 140737488355328; omega); (· first | rfl | (simp only [freshB, noRefH, OB.cells, refsL_fv, refsL_app]; rfl)))
          | (apply Ops.stoW; (· rfl); (· rfl); (· rfl); (· rfl); (· rfl); (· rfl); (· first | rfl | exact onesB_map _); (· rfl); (· exact rfl); (· exact (by repeat' (first | exact .here | apply Repl.there rfl))))
          | (apply Ops.stoB; (· rfl); (· rfl); (· rfl); (· rfl); (· rfl); (· rfl); (· first | rfl | exact onesB_map _); (· rfl); (· exact rfl); (· exact (by repeat' (first | exact .here | apply Repl.there rfl))))
          | (apply Ops.stoR; (· rfl); (· rfl); (· rfl); (· rfl); (· rfl); (· rfl); (· first | rfl | exact onesB_map _); (· rfl); (· exact rfl); (· exact (by repeat' (first | exact .here | apply Repl.there rfl))))
          | (apply Ops.gand; (· rfl); (· rfl); (· rfl); (· rfl); (· rfl); (· rfl); (· rfl); (· exact (by first | exact .b | exact .w)); (· rfl); (· rfl); (· rfl); (· simp); (· intro hc; first | exact hc | exact hc.1); (· intro hc; exact ⟨fun h => h.2, fun h => ⟨hc, h⟩⟩))
          | (apply Ops.gor; (· rfl); (· rfl); (· rfl); (· rfl); (· rfl); (· rfl); (· rfl); (· exact (by first | exact .b | exact .w)); (· rfl); (· rfl); (· rfl); (· simp); (· intro hc; first | exact hc | exact hc.1); (· intro hc; exact ⟨fun h => h.2, fun h => ⟨hc, h⟩⟩))
          | apply WP.drwL tbl_ok mixed_no rfl
          | ((with_reducible apply drwK.mk); (· kernel_rfl); (· first | rfl | (simp only [freeF, List.all_cons, List.all_nil, noRefH, OB.cells, refsL_fv, refsL_app]; rfl)))
          | fail)
        all_goals (try exact ([] : List Fp))
        · exfalso
          simp at hcond
          omega
        · refine ⟨k + 1, ⟨by omega, hat⟩, by omega, ?_⟩
          refine St.le_of ?_ ?_ <;> (repeat' (first | exact trivial | refine ⟨⟨_, rfl, .refl _⟩, ?_⟩ | refine ⟨⟨_, rfl, .any _⟩, ?_⟩ | refine ⟨⟨_, rfl, .of_eq ?_⟩, ?_⟩ | refine ⟨⟨_, rfl, fun _ _ _ _ h => h⟩, ?_⟩ | fail))
end Go.Proofs.Ytdbbmjdeeenlhaa
