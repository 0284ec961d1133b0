/- Words of bytes, and frames of them, by the logic of memory. -/
import Derived.Test.YtfgiehfiieecoaaH3
namespace Go.Proofs.Ytfgiehfiieecoaa
open Go.RowKit
set_option maxRecDepth 100000

theorem bits_or_byte (n m : Nat) (h : n ≤ 65535) (hm : m < 256) : bits .or .i64 ((n * 256 : Nat) : Int) (m : Int) = ((256 * n + m : Nat) : Int) := by
  have e : n * 256 ||| m = 256 * n + m := by
    have := Nat.shiftLeft_add_eq_or_of_lt (a := n) (b := m) (i := 8) (by omega)
    rw [Nat.shiftLeft_eq, show 2 ^ 8 = 256 from rfl] at this
    omega
  show IntKind.i64.wrap ((BitVec.ofInt 64 ((n * 256 : Nat) : Int) ||| BitVec.ofInt 64 (m : Int)).toNat : Int) = _
  rw [BitVec.toNat_or, ofInt_i64 _ (by omega), ofInt_i64 _ (by omega), e, IntKind.wrap_i64]
  omega
def byteAt (bs : List UInt8) (i : Nat) : UInt8 := (bs[i]?).getD 0
def wat (bs : List UInt8) (i : Nat) : Nat := 256 * (byteAt bs i).toNat + (byteAt bs (i + 1)).toNat
theorem byteAt_get {bs : List UInt8} {i k : Nat} (hk : k = bs.length) (h : i < k) : bs[i]? = some (byteAt bs i) := by
  subst hk
  rw [byteAt, List.getElem?_eq_getElem h]
  rfl
theorem wat_le (bs : List UInt8) (i : Nat) : wat bs i ≤ 65535 := by
  have := (byteAt bs i).toNat_lt
  have := (byteAt bs (i + 1)).toNat_lt
  unfold wat
  omega
theorem flatMap_drop {α : Type} {enc : α → List FV} {s : Nat} (hs : ∀ x, (enc x).length = s) : ∀ (l : List α) (j : Nat), (l.flatMap enc).drop (j * s) = (l.drop j).flatMap enc
  | l, 0 => by simp
  | [], j + 1 => by simp
  | x :: l, j + 1 => by
    rw [List.flatMap_cons, List.drop_succ_cons, ← flatMap_drop hs l j, Nat.add_mul, Nat.one_mul, Nat.add_comm, ← List.drop_drop, List.drop_left' (hs x)]
theorem flatMap_take {α : Type} {enc : α → List FV} {s : Nat} (hs : ∀ x, (enc x).length = s) : ∀ (l : List α) (j : Nat), (l.flatMap enc).take (j * s) = (l.take j).flatMap enc
  | l, 0 => by simp
  | [], j + 1 => by simp
  | x :: l, j + 1 => by
    rw [List.flatMap_cons, List.take_succ_cons, List.flatMap_cons, ← flatMap_take hs l j, Nat.add_mul, Nat.one_mul, Nat.add_comm, List.take_append, List.take_of_length_le (by rw [hs]; omega), hs, Nat.add_sub_cancel_left]
section
variable {T : Tbl} {ρ : Operand → AV} {H : Own} {d : Nat}
theorem Eff.orB {t u : Nat} {x y : Operand} {n m : Nat} (h1 : ρ x = .fv (.int .i64 ((n * 256 : Nat) : Int))) (h2 : ρ y = .fv (.int .i64 (m : Int))) (h3 : n ≤ 65535) (h4 : m < 256) : Eff T ρ H d (.binOp .or t x y u) (.fv (.int .i64 ((256 * n + m : Nat) : Int))) [] := by
  have := Eff.bin (T := T) (H := H) (d := d) (op := .or) (t := t) (u := u) h1 h2 rfl
  rwa [bits_or_byte n m h3 h4] at this
theorem Eff.idxBI {t : Nat} {x y : Operand} {l : List UInt8} {k e b : Nat} (i : Nat) {kk : IntKind} {v : Int} (hk : k = l.length) (h1 : ρ x = .fv (.sl (l.flatMap encB) k)) (h2 : ρ y = .fv (.int kk v)) (h3 : lk T.sli t = some (e, 1, b)) (hv : v = (i : Int)) (hi : i < k) : Eff T ρ H d (.indexAddr t x y) (.fptr (encB (byteAt l i))) [] := by
  subst hv
  exact Eff.idxB8 hk h1 h2 h3 (byteAt_get hk hi)
theorem Eff.sliHB {t : Nat} {x hi : Operand} {l : List UInt8} {k e b : Nat} (h : Nat) {k' : IntKind} {v : Int} (hk : k = l.length) (h1 : ρ x = .fv (.sl (l.flatMap encB) k)) (h2 : ρ hi = .fv (.int k' v)) (h3 : lk T.sli t = some (e, 1, b)) (hv : v = (h : Int)) (hh : h ≤ k) : Eff T ρ H d (.slice t x none (some hi) none) (.fv (.sl ((l.take h).flatMap encB) h)) [] := by
  subst hv
  have hl : (l.flatMap encB).length = k * 1 := by rw [flatMap_len encB_len, hk]
  have := Eff.sliH (T := T) (H := H) (d := d) h1 h2 h3 hh hl
  rwa [flatMap_take encB_len] at this
theorem Eff.sliLB {t : Nat} {x lo : Operand} {bs : List UInt8} {k e b : Nat} (l : Nat) {k' : IntKind} {v : Int} (hk : k = bs.length) (h1 : ρ x = .fv (.sl (bs.flatMap encB) k)) (h2 : ρ lo = .fv (.int k' v)) (h3 : lk T.sli t = some (e, 1, b)) (hv : v = (l : Int)) (hh : l ≤ k) : Eff T ρ H d (.slice t x (some lo) none none) (.fv (.sl ((bs.drop l).flatMap encB) (k - l))) [] := by
  subst hv
  have hl : (bs.flatMap encB).length = k * 1 := by rw [flatMap_len encB_len, hk]
  have := Eff.sliL (T := T) (H := H) (d := d) h1 h2 h3 hh hl
  rwa [flatMap_drop encB_len] at this
theorem Eff.sliLHB {t : Nat} {x lo hi : Operand} {bs : List UInt8} {k e b : Nat} (l m : Nat) {k' k2 : IntKind} {v v2 : Int} (hk : k = bs.length) (h1 : ρ x = .fv (.sl (bs.flatMap encB) k)) (h2 : ρ lo = .fv (.int k' v)) (h2' : ρ hi = .fv (.int k2 v2)) (h3 : lk T.sli t = some (e, 1, b)) (hv : v = (l : Int)) (hv2 : v2 = ((l + m : Nat) : Int)) (hh2 : l + m ≤ k) :
    Eff T ρ H d (.slice t x (some lo) (some hi) none) (.fv (.sl (((bs.drop l).take m).flatMap encB) m)) [] := by
  subst hv
  subst hv2
  have hl : (bs.flatMap encB).length = k * 1 := by rw [flatMap_len encB_len, hk]
  have := Eff.sliLH (T := T) (H := H) (d := d) h1 h2 h2' h3 (Nat.le_add_right l m) hh2 hl
  rwa [Nat.add_sub_cancel_left, flatMap_drop encB_len, flatMap_take encB_len] at this
theorem Eff.b2sB {s t : Nat} {x : Operand} {bs : List UInt8} {k e q b : Nat} (h1 : ρ x = .fv (.sl (bs.flatMap encB) k)) (h2 : lk T.sli s = some (e, q, b)) (h3 : lk T.kind e = some .u8) (h4 : lk T.str t = some ()) (hk : k = bs.length) : Eff T ρ H d (.convert s t x) (.fv (.str ⟨bs.toArray⟩)) [] := by
  subst hk
  exact .b2s h1 h2 h3 h4
end
theorem at_T (bs : List UInt8) (k i : Nat) (v : Int) (hk : k = bs.length) (hv : v = (i : Int)) (hi : i + 1 < k) (hl : k ≤ 140737488355328) : Fun Try.prog 95 [.fv (.int .i64 v), .fptr [.sl (bs.flatMap encB) k]] (.fv (.int .i64 (wat bs i : Nat))) := by
  have u1 := (byteAt bs i).toNat_lt
  have u2 := (byteAt bs (i + 1)).toNat_lt
  refine Fun.body tbl_ok Try.func95 rfl (by kernel_rfl) rfl rfl rfl ?_
  repeat' (first
    | (apply Ops.loc; (· rfl); (· rfl); (· rfl); (· first | (exact .eff (.idxBI i hk rfl rfl rfl hv (by omega))) | (exact .eff (.idxBI (i + 1) hk rfl rfl rfl (by omega) (by omega))) | (exact .eff (.conv8 rfl rfl rfl)) | (exact .eff (.shlB rfl rfl (by omega))) | (exact .eff (.orB rfl rfl (by omega) (by omega))) | exact .eff (.mv rfl) | exact .eff (.asg rfl) | exact .eff (.loadO rfl rfl rfl) | exact .eff (.loadF rfl rfl) | exact .eff (.fldO rfl rfl rfl) | exact .eff (.fldF rfl rfl rfl) | (refine .eff (.add64 rfl rfl ?_ ?_) <;> omega) | (refine .eff (.sub64 rfl rfl ?_ ?_) <;> omega) | exact .eff (.lenF rfl rfl) | exact .eff (.lenO rfl rfl rfl) | exact .eff (.lenN rfl rfl) | exact .eff (.lenS rfl rfl) | exact .eff (.isNilF rfl (by omega) rfl (flatMap_len (fun _ => rfl) _)) | exact .eff (.isNilO rfl rfl (by omega) rfl) | exact .eff (.isNilZ rfl rfl rfl) | exact .eff (.lenB rfl rfl) | exact .eff (.idxB rfl rfl rfl (by omega) (by omega)) | exact .eff (.oLH rfl rfl rfl rfl rfl (by omega) (by omega)) | exact .eff (.oL rfl rfl rfl rfl (by omega)) | exact .eff (.oH rfl rfl rfl rfl (by omega)) | exact .eff (.bLH rfl rfl rfl rfl rfl (by omega) (by omega)) | exact .eff (.or rfl rfl rfl) | exact .eff (.and rfl rfl rfl) | exact .eff (.not rfl) | exact .eff (.extract rfl rfl) | (refine .eff (.mul64 rfl rfl ?_ ?_) <;> omega) | exact .eff (.bin rfl rfl rfl) | (refine .eff (.quo64 rfl rfl ?_ ?_ ?_) <;> omega) | (refine .eff (.rem64 rfl rfl ?_ ?_) <;> omega) | exact .eff (.idxPO rfl rfl rfl (by omega) (by omega)) | exact .eff (.idxPF rfl rfl rfl (by omega) (by omega)) | exact .eff (.idxO rfl rfl rfl rfl (by omega) (by omega)) | exact .eff (.buildS rfl rfl rfl rfl) | exact .eff (.eqA rfl rfl rfl rfl rfl) | exact .eff (.neA rfl rfl rfl rfl rfl) | exact .eff (.quo rfl rfl (by decide)) | exact .eff (.rem rfl rfl (by decide)) | exact .eff (.shr rfl rfl (by decide) (by decide)) | exact .eff (.shl rfl rfl (by decide) (by decide)) | exact .eff (.conv rfl rfl rfl) | exact .eff (.strEq rfl rfl) | exact .eff (.strNe rfl rfl) | exact .eff (.mkFn) | exact .eff (.nilO rfl) | exact .eff (.nilF rfl) | exact .eff (.neg rfl) | exact .eff (.max rfl rfl) | exact .eff (.min rfl rfl)))
    | with_reducible refine WP.seq ?_
    | with_reducible apply WP.reg tbl_ok rfl
    | with_reducible refine Ops.nil ?_
    | with_reducible refine thenQ.nor ?_
    | with_reducible refine thenQ.ex ?_
    | with_reducible refine thenQ.ret ?_
    | with_reducible refine blockQ.nor ?_
    | with_reducible refine blockQ.ret ?_
    | with_reducible refine blockQ.hit rfl ?_
    | with_reducible refine blockQ.out rfl ?_
    | with_reducible refine WP.block ?_
    | with_reducible refine WP.skip ?_
    | with_reducible refine WP.exit ?_
    | with_reducible refine WP.ret ?_
    | refine WP.condT rfl ?_
    | refine WP.condF rfl ?_
    | refine WP.condT (c := _) (condD rfl (by first | exact decide_eq_true (by omega) | exact bne_iff_ne.2 (by omega) | exact beq_iff_eq.2 (by omega))) ?_
    | refine WP.condF (c := _) (condD rfl (by first | exact decide_eq_false (by omega) | exact bne_eq_false_iff_eq.2 (by omega) | exact beq_eq_false_iff_ne.2 (by omega))) ?_
    | refine WP.condBit rfl ?_ ?_
    | (refine WP.cond rfl ?_ ?_ <;> intro hcond)
    | (apply Ops.gst; (· rfl); (· rfl); (· rfl); (· rfl); (· rfl); (· rfl); (· rfl); (· first | exact .b | exact .w); (· intro hc; repeat' (first | exact trivial | exact fun _ => hc | exact fun _ => hc.1 | exact fun _ => ⟨hc.1.1, hc.1.2⟩ | refine And.intro ?_ ?_)); (· intro hc; first | (exact .eff (.idxBI i hk rfl rfl rfl hv (by omega))) | (exact .eff (.idxBI (i + 1) hk rfl rfl rfl (by omega) (by omega))) | (exact .eff (.conv8 rfl rfl rfl)) | (exact .eff (.shlB rfl rfl (by omega))) | (exact .eff (.orB rfl rfl (by omega) (by omega))) | exact .eff (.mvG rfl) | exact .eff (.asg rfl) | exact .eff (.loadO rfl rfl rfl) | exact .eff (.loadF rfl rfl) | exact .eff (.fldO rfl rfl rfl) | exact .eff (.fldF rfl rfl rfl) | (refine .eff (.add64 rfl rfl ?_ ?_) <;> omega) | (refine .eff (.sub64 rfl rfl ?_ ?_) <;> omega) | exact .eff (.lenF rfl rfl) | exact .eff (.lenO rfl rfl rfl) | exact .eff (.lenN rfl rfl) | exact .eff (.lenS rfl rfl) | exact .eff (.isNilF rfl (by omega) rfl (flatMap_len (fun _ => rfl) _)) | exact .eff (.isNilO rfl rfl (by omega) rfl) | exact .eff (.isNilZ rfl rfl rfl) | exact .eff (.lenB rfl rfl) | exact .eff (.idxB rfl rfl rfl (by omega) (by omega)) | exact .eff (.oLH rfl rfl rfl rfl rfl (by omega) (by omega)) | exact .eff (.oL rfl rfl rfl rfl (by omega)) | exact .eff (.oH rfl rfl rfl rfl (by omega)) | exact .eff (.bLH rfl rfl rfl rfl rfl (by omega) (by omega)) | exact .eff (.or rfl rfl rfl) | exact .eff (.and rfl rfl rfl) | exact .eff (.not rfl) | exact .eff (.extract rfl rfl) | (refine .eff (.mul64 rfl rfl ?_ ?_) <;> omega) | exact .eff (.bin rfl rfl rfl) | (refine .eff (.quo64 rfl rfl ?_ ?_ ?_) <;> omega) | (refine .eff (.rem64 rfl rfl ?_ ?_) <;> omega) | exact .eff (.idxPO rfl rfl rfl (by omega) (by omega)) | exact .eff (.idxPF rfl rfl rfl (by omega) (by omega)) | exact .eff (.idxO rfl rfl rfl rfl (by omega) (by omega)) | exact .eff (.buildS rfl rfl rfl rfl) | exact .eff (.eqA rfl rfl rfl rfl rfl) | exact .eff (.neA rfl rfl rfl rfl rfl) | exact .eff (.quo rfl rfl (by decide)) | exact .eff (.rem rfl rfl (by decide)) | exact .eff (.shr rfl rfl (by decide) (by decide)) | exact .eff (.shl rfl rfl (by decide) (by decide)) | exact .eff (.conv rfl rfl rfl) | exact .eff (.strEq rfl rfl) | exact .eff (.strNe rfl rfl) | exact .eff (.mkFn) | exact .eff (.nilO rfl) | exact .eff (.nilF rfl) | exact .eff (.neg rfl) | exact .eff (.max rfl rfl) | exact .eff (.min rfl rfl)); (· rfl); (· rfl))
    | (apply Ops.new; (· rfl); (· rfl); (· rfl); (· first | exact .eff (.box rfl) | exact .eff (.alloc rfl) | exact .eff (.bsliceS rfl rfl rfl rfl rfl) | exact .eff (.mkS rfl rfl rfl rfl (by omega) (by omega)) | exact .eff (.zeroS rfl rfl (by intro l hl; first | cases hl | exact ⟨_, by injection hl with hl; subst hl; rfl⟩) rfl rfl rfl)); (· first | rfl | (simp only [freshB, noRefH, OB.cells, refsL_fv, refsL_app]; rfl)))
    | (apply Ops.app; (· rfl); (· rfl); (· rfl); (· rfl); (· rfl); (· rfl); (· rfl); (· exact (by first | exact .nil | exact .own rfl (rmv_q (by first | exact (rfl : _ = []) | exact (rfl : _ = [_]) | exact (rfl : _ = [_, _]) | exact (rfl : _ = [_, _, _]) | exact (rfl : _ = [_, _, _, _]) | exact (rfl : _ = [_, _, _, _, _]) | exact (rfl : _ = [_, _, _, _, _, _]) | exact (rfl : _ = [_, _, _, _, _, _, _]) | exact (rfl : _ = [_, _, _, _, _, _, _, _]) | exact (rfl : _ = [_, _, _, _, _, _, _, _, _]) | exact (rfl : _ = [_, _, _, _, _, _, _, _, _, _]) | exact (rfl : _ = [_, _, _, _, _, _, _, _, _, _, _]) | exact (rfl : _ = [_, _, _, _, _, _, _, _, _, _, _, _]))))); (· exact (by first | exact .nil | exact .own rfl (by first | rfl | exact onesB_map _) | exact .fz (by first | rfl | (simp; done) | exact (flatMap_len (s := 1) (fun _ => rfl) _).trans (by omega)))); (· rfl); (· show (_ : Nat) ≤ 140737488355328; omega); (· first | rfl | (simp only [freshB, noRefH, OB.cells, refsL_fv, refsL_app]; rfl)))
    | (apply Ops.appS; (· rfl); (· rfl); (· rfl); (· rfl); (· rfl); (· rfl); (· rfl); (· rfl); (· rfl); (· exact (by first | exact .nil | exact .own rfl (rmv_q (by first | exact (rfl : _ = []) | exact (rfl : _ = [_]) | exact (rfl : _ = [_, _]) | exact (rfl : _ = [_, _, _]) | exact (rfl : _ = [_, _, _, _]) | exact (rfl : _ = [_, _, _, _, _]) | exact (rfl : _ = [_, _, _, _, _, _]) | exact (rfl : _ = [_, _, _, _, _, _, _]) | exact (rfl : _ = [_, _, _, _, _, _, _, _]) | exact (rfl : _ = [_, _, _, _, _, _, _, _, _]) | exact (rfl : _ = [_, _, _, _, _, _, _, _, _, _]) | exact (rfl : _ = [_, _, _, _, _, _, _, _, _, _, _]) | exact (rfl : _ = [_, _, _, _, _, _, _, _, _, _, _, _]))))); (· show (_ : Nat) ≤ 140737488355328; omega); (· first | rfl | (simp only [freshB, noRefH, OB.cells, refsL_fv, refsL_app]; rfl)))
    | (apply Ops.stoW; (· rfl); (· rfl); (· rfl); (· rfl); (· rfl); (· rfl); (· first | rfl | exact onesB_map _); (· rfl); (· exact rfl); (· exact (by repeat' (first | exact .here | apply Repl.there rfl))))
    | (apply Ops.stoB; (· rfl); (· rfl); (· rfl); (· rfl); (· rfl); (· rfl); (· first | rfl | exact onesB_map _); (· rfl); (· exact rfl); (· exact (by repeat' (first | exact .here | apply Repl.there rfl))))
    | (apply Ops.stoR; (· rfl); (· rfl); (· rfl); (· rfl); (· rfl); (· rfl); (· first | rfl | exact onesB_map _); (· rfl); (· exact rfl); (· exact (by repeat' (first | exact .here | apply Repl.there rfl))))
    | (apply Ops.gand; (· rfl); (· rfl); (· rfl); (· rfl); (· rfl); (· rfl); (· rfl); (· exact (by first | exact .b | exact .w)); (· rfl); (· rfl); (· rfl); (· simp); (· intro hc; first | exact hc | exact hc.1); (· intro hc; exact ⟨fun h => h.2, fun h => ⟨hc, h⟩⟩))
    | (apply Ops.gor; (· rfl); (· rfl); (· rfl); (· rfl); (· rfl); (· rfl); (· rfl); (· exact (by first | exact .b | exact .w)); (· rfl); (· rfl); (· rfl); (· simp); (· intro hc; first | exact hc | exact hc.1); (· intro hc; exact ⟨fun h => h.2, fun h => ⟨hc, h⟩⟩))
    | apply WP.drwL tbl_ok mixed_no rfl
    | ((with_reducible apply drwK.mk); (· kernel_rfl); (· first | rfl | (simp only [freeF, List.all_cons, List.all_nil, noRefH, OB.cells, refsL_fv, refsL_app]; rfl)))
    | fail)
  all_goals (try exact ([] : List Fp))
  refine .f1 (.inl rfl) rfl ?_
  rfl
theorem wordAt_T (bs : List UInt8) (k i : Nat) (v : Int) (hk : k = bs.length) (hv : v = (i : Int)) (hi : i + 1 < k) (hl : k ≤ 140737488355328) : Fun Try.prog 96 [.fv (.sl (bs.flatMap encB) k), .fv (.int .i64 v)] (.fv (.int .i64 (wat bs i : Nat))) := by
  have u1 := (byteAt bs i).toNat_lt
  have u2 := (byteAt bs (i + 1)).toNat_lt
  refine Fun.body tbl_ok Try.func96 rfl (by kernel_rfl) rfl rfl rfl ?_
  repeat' (first
    | (apply Ops.loc; (· rfl); (· rfl); (· rfl); (· first | (exact .eff (.idxBI i hk rfl rfl rfl hv (by omega))) | (exact .eff (.idxBI (i + 1) hk rfl rfl rfl (by omega) (by omega))) | (exact .eff (.conv8 rfl rfl rfl)) | exact .eff (.mv rfl) | exact .eff (.asg rfl) | exact .eff (.loadO rfl rfl rfl) | exact .eff (.loadF rfl rfl) | exact .eff (.fldO rfl rfl rfl) | exact .eff (.fldF rfl rfl rfl) | (refine .eff (.add64 rfl rfl ?_ ?_) <;> omega) | (refine .eff (.sub64 rfl rfl ?_ ?_) <;> omega) | exact .eff (.lenF rfl rfl) | exact .eff (.lenO rfl rfl rfl) | exact .eff (.lenN rfl rfl) | exact .eff (.lenS rfl rfl) | exact .eff (.isNilF rfl (by omega) rfl (flatMap_len (fun _ => rfl) _)) | exact .eff (.isNilO rfl rfl (by omega) rfl) | exact .eff (.isNilZ rfl rfl rfl) | exact .eff (.lenB rfl rfl) | exact .eff (.idxB rfl rfl rfl (by omega) (by omega)) | exact .eff (.oLH rfl rfl rfl rfl rfl (by omega) (by omega)) | exact .eff (.oL rfl rfl rfl rfl (by omega)) | exact .eff (.oH rfl rfl rfl rfl (by omega)) | exact .eff (.bLH rfl rfl rfl rfl rfl (by omega) (by omega)) | exact .eff (.or rfl rfl rfl) | exact .eff (.and rfl rfl rfl) | exact .eff (.not rfl) | exact .eff (.extract rfl rfl) | (refine .eff (.mul64 rfl rfl ?_ ?_) <;> omega) | exact .eff (.bin rfl rfl rfl) | (refine .eff (.quo64 rfl rfl ?_ ?_ ?_) <;> omega) | (refine .eff (.rem64 rfl rfl ?_ ?_) <;> omega) | exact .eff (.idxPO rfl rfl rfl (by omega) (by omega)) | exact .eff (.idxPF rfl rfl rfl (by omega) (by omega)) | exact .eff (.idxO rfl rfl rfl rfl (by omega) (by omega)) | exact .eff (.buildS rfl rfl rfl rfl) | exact .eff (.eqA rfl rfl rfl rfl rfl) | exact .eff (.neA rfl rfl rfl rfl rfl) | exact .eff (.quo rfl rfl (by decide)) | exact .eff (.rem rfl rfl (by decide)) | exact .eff (.shr rfl rfl (by decide) (by decide)) | exact .eff (.shl rfl rfl (by decide) (by decide)) | exact .eff (.conv rfl rfl rfl) | exact .eff (.strEq rfl rfl) | exact .eff (.strNe rfl rfl) | exact .eff (.mkFn) | exact .eff (.nilO rfl) | exact .eff (.nilF rfl) | exact .eff (.neg rfl) | exact .eff (.max rfl rfl) | exact .eff (.min rfl rfl)))
    | with_reducible refine WP.seq ?_
    | with_reducible apply WP.reg tbl_ok rfl
    | with_reducible refine Ops.nil ?_
    | with_reducible refine thenQ.nor ?_
    | with_reducible refine thenQ.ex ?_
    | with_reducible refine thenQ.ret ?_
    | with_reducible refine blockQ.nor ?_
    | with_reducible refine blockQ.ret ?_
    | with_reducible refine blockQ.hit rfl ?_
    | with_reducible refine blockQ.out rfl ?_
    | with_reducible refine WP.block ?_
    | with_reducible refine WP.skip ?_
    | with_reducible refine WP.exit ?_
    | with_reducible refine WP.ret ?_
    | refine WP.condT rfl ?_
    | refine WP.condF rfl ?_
    | refine WP.condT (c := _) (condD rfl (by first | exact decide_eq_true (by omega) | exact bne_iff_ne.2 (by omega) | exact beq_iff_eq.2 (by omega))) ?_
    | refine WP.condF (c := _) (condD rfl (by first | exact decide_eq_false (by omega) | exact bne_eq_false_iff_eq.2 (by omega) | exact beq_eq_false_iff_ne.2 (by omega))) ?_
    | refine WP.condBit rfl ?_ ?_
    | (refine WP.cond rfl ?_ ?_ <;> intro hcond)
    | (apply Ops.gst; (· rfl); (· rfl); (· rfl); (· rfl); (· rfl); (· rfl); (· rfl); (· first | exact .b | exact .w); (· intro hc; repeat' (first | exact trivial | exact fun _ => hc | exact fun _ => hc.1 | exact fun _ => ⟨hc.1.1, hc.1.2⟩ | refine And.intro ?_ ?_)); (· intro hc; first | (exact .eff (.idxBI i hk rfl rfl rfl hv (by omega))) | (exact .eff (.idxBI (i + 1) hk rfl rfl rfl (by omega) (by omega))) | (exact .eff (.conv8 rfl rfl rfl)) | exact .eff (.mvG rfl) | exact .eff (.asg rfl) | exact .eff (.loadO rfl rfl rfl) | exact .eff (.loadF rfl rfl) | exact .eff (.fldO rfl rfl rfl) | exact .eff (.fldF rfl rfl rfl) | (refine .eff (.add64 rfl rfl ?_ ?_) <;> omega) | (refine .eff (.sub64 rfl rfl ?_ ?_) <;> omega) | exact .eff (.lenF rfl rfl) | exact .eff (.lenO rfl rfl rfl) | exact .eff (.lenN rfl rfl) | exact .eff (.lenS rfl rfl) | exact .eff (.isNilF rfl (by omega) rfl (flatMap_len (fun _ => rfl) _)) | exact .eff (.isNilO rfl rfl (by omega) rfl) | exact .eff (.isNilZ rfl rfl rfl) | exact .eff (.lenB rfl rfl) | exact .eff (.idxB rfl rfl rfl (by omega) (by omega)) | exact .eff (.oLH rfl rfl rfl rfl rfl (by omega) (by omega)) | exact .eff (.oL rfl rfl rfl rfl (by omega)) | exact .eff (.oH rfl rfl rfl rfl (by omega)) | exact .eff (.bLH rfl rfl rfl rfl rfl (by omega) (by omega)) | exact .eff (.or rfl rfl rfl) | exact .eff (.and rfl rfl rfl) | exact .eff (.not rfl) | exact .eff (.extract rfl rfl) | (refine .eff (.mul64 rfl rfl ?_ ?_) <;> omega) | exact .eff (.bin rfl rfl rfl) | (refine .eff (.quo64 rfl rfl ?_ ?_ ?_) <;> omega) | (refine .eff (.rem64 rfl rfl ?_ ?_) <;> omega) | exact .eff (.idxPO rfl rfl rfl (by omega) (by omega)) | exact .eff (.idxPF rfl rfl rfl (by omega) (by omega)) | exact .eff (.idxO rfl rfl rfl rfl (by omega) (by omega)) | exact .eff (.buildS rfl rfl rfl rfl) | exact .eff (.eqA rfl rfl rfl rfl rfl) | exact .eff (.neA rfl rfl rfl rfl rfl) | exact .eff (.quo rfl rfl (by decide)) | exact .eff (.rem rfl rfl (by decide)) | exact .eff (.shr rfl rfl (by decide) (by decide)) | exact .eff (.shl rfl rfl (by decide) (by decide)) | exact .eff (.conv rfl rfl rfl) | exact .eff (.strEq rfl rfl) | exact .eff (.strNe rfl rfl) | exact .eff (.mkFn) | exact .eff (.nilO rfl) | exact .eff (.nilF rfl) | exact .eff (.neg rfl) | exact .eff (.max rfl rfl) | exact .eff (.min rfl rfl)); (· rfl); (· rfl))
    | (apply Ops.new; (· rfl); (· rfl); (· rfl); (· first | exact .eff (.box rfl) | exact .eff (.alloc rfl) | exact .eff (.bsliceS rfl rfl rfl rfl rfl) | exact .eff (.mkS rfl rfl rfl rfl (by omega) (by omega)) | exact .eff (.zeroS rfl rfl (by intro l hl; first | cases hl | exact ⟨_, by injection hl with hl; subst hl; rfl⟩) rfl rfl rfl)); (· first | rfl | (simp only [freshB, noRefH, OB.cells, refsL_fv, refsL_app]; rfl)))
    | (apply Ops.app; (· rfl); (· rfl); (· rfl); (· rfl); (· rfl); (· rfl); (· rfl); (· exact (by first | exact .nil | exact .own rfl (rmv_q (by first | exact (rfl : _ = []) | exact (rfl : _ = [_]) | exact (rfl : _ = [_, _]) | exact (rfl : _ = [_, _, _]) | exact (rfl : _ = [_, _, _, _]) | exact (rfl : _ = [_, _, _, _, _]) | exact (rfl : _ = [_, _, _, _, _, _]) | exact (rfl : _ = [_, _, _, _, _, _, _]) | exact (rfl : _ = [_, _, _, _, _, _, _, _]) | exact (rfl : _ = [_, _, _, _, _, _, _, _, _]) | exact (rfl : _ = [_, _, _, _, _, _, _, _, _, _]) | exact (rfl : _ = [_, _, _, _, _, _, _, _, _, _, _]) | exact (rfl : _ = [_, _, _, _, _, _, _, _, _, _, _, _]))))); (· exact (by first | exact .nil | exact .own rfl (by first | rfl | exact onesB_map _) | exact .fz (by first | rfl | (simp; done) | exact (flatMap_len (s := 1) (fun _ => rfl) _).trans (by omega)))); (· rfl); (· show (_ : Nat) ≤ 140737488355328; omega); (· first | rfl | (simp only [freshB, noRefH, OB.cells, refsL_fv, refsL_app]; rfl)))
    | (apply Ops.appS; (· rfl); (· rfl); (· rfl); (· rfl); (· rfl); (· rfl); (· rfl); (· rfl); (· rfl); (· exact (by first | exact .nil | exact .own rfl (rmv_q (by first | exact (rfl : _ = []) | exact (rfl : _ = [_]) | exact (rfl : _ = [_, _]) | exact (rfl : _ = [_, _, _]) | exact (rfl : _ = [_, _, _, _]) | exact (rfl : _ = [_, _, _, _, _]) | exact (rfl : _ = [_, _, _, _, _, _]) | exact (rfl : _ = [_, _, _, _, _, _, _]) | exact (rfl : _ = [_, _, _, _, _, _, _, _]) | exact (rfl : _ = [_, _, _, _, _, _, _, _, _]) | exact (rfl : _ = [_, _, _, _, _, _, _, _, _, _]) | exact (rfl : _ = [_, _, _, _, _, _, _, _, _, _, _]) | exact (rfl : _ = [_, _, _, _, _, _, _, _, _, _, _, _]))))); (· show (_ : Nat) ≤ 140737488355328; omega); (· first | rfl | (simp only [freshB, noRefH, OB.cells, refsL_fv, refsL_app]; rfl)))
    | (apply Ops.stoW; (· rfl); (· rfl); (· rfl); (· rfl); (· rfl); (· rfl); (· first | rfl | exact onesB_map _); (· rfl); (· exact rfl); (· exact (by repeat' (first | exact .here | apply Repl.there rfl))))
    | (apply Ops.stoB; (· rfl); (· rfl); (· rfl); (· rfl); (· rfl); (· rfl); (· first | rfl | exact onesB_map _); (· rfl); (· exact rfl); (· exact (by repeat' (first | exact .here | apply Repl.there rfl))))
    | (apply Ops.stoR; (· rfl); (· rfl); (· rfl); (· rfl); (· rfl); (· rfl); (· first | rfl | exact onesB_map _); (· rfl); (· exact rfl); (· exact (by repeat' (first | exact .here | apply Repl.there rfl))))
    | (apply Ops.gand; (· rfl); (· rfl); (· rfl); (· rfl); (· rfl); (· rfl); (· rfl); (· exact (by first | exact .b | exact .w)); (· rfl); (· rfl); (· rfl); (· simp); (· intro hc; first | exact hc | exact hc.1); (· intro hc; exact ⟨fun h => h.2, fun h => ⟨hc, h⟩⟩))
    | (apply Ops.gor; (· rfl); (· rfl); (· rfl); (· rfl); (· rfl); (· rfl); (· rfl); (· exact (by first | exact .b | exact .w)); (· rfl); (· rfl); (· rfl); (· simp); (· intro hc; first | exact hc | exact hc.1); (· intro hc; exact ⟨fun h => h.2, fun h => ⟨hc, h⟩⟩))
    | apply WP.drwL tbl_ok mixed_no rfl
    | ((with_reducible apply drwK.mk); (· kernel_rfl); (· first | rfl | (simp only [freeF, List.all_cons, List.all_nil, noRefH, OB.cells, refsL_fv, refsL_app]; rfl)))
    | fail)
  all_goals (try exact ([] : List Fp))
  refine .f1 (.inl rfl) rfl ?_
  rfl
end Go.Proofs.Ytfgiehfiieecoaa
