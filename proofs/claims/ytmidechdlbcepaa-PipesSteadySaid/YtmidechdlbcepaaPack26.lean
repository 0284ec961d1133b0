import Derived.Test.YtmidechdlbcepaaPack24
import Derived.Test.YtmidechdlbcepaaPack06
import Derived.Test.YtmidechdlbcepaaPack25
import Derived.Test.YtmidechdlbcepaaPack19
import Derived.Test.YtmidechdlbcepaaPack05
import Derived.Test.YtmidechdlbcepaaPack22
import Derived.Test.YtmidechdlbcepaaPack20
import Derived.Test.YtmidechdlbcepaaPack23
set_option linter.unusedSimpArgs false
set_option linter.unusedVariables false
namespace Go.Proofs.Ytmidechdlbcepaa
open Go.RowKit
set_option maxRecDepth 100000

theorem any_at {α : Type} {p : α → Bool} {l : List α} {k : Nat} {x : α} (hk : l[k]? = some x) : (l.drop k).any p = (p x || (l.drop (k + 1)).any p) := by
  have hlt := (List.getElem?_eq_some_iff.1 hk).1
  have e : l.drop k = x :: l.drop (k + 1) := by rw [List.drop_eq_getElem_cons hlt, (List.getElem?_eq_some_iff.1 hk).2]
  rw [e, List.any_cons]
def Cf.Small (c : Cf) : Prop := c.ss.length < 9223372036854775807 ∧ c.ps.length < 9223372036854775807 ∧ c.acs.length < 9223372036854775807

set_option maxHeartbeats 1000000 in
theorem taken_T (c : Cf) (tenant ip : Int) (hl : c.Small) (hw : c.Wf) : Fun Try.prog 92 [.agg ((encCf c).map .fv), .fv (.int .i64 tenant), .fv (.int .i64 ip)] (.fv (.bool (takenB c tenant ip))) := by
  have hl1 := hl.1
  refine Fun.body tbl_ok Try.func92 rfl (by kernel_rfl) rfl rfl rfl ?_
  repeat' (first | refine X.loc ?_ | refine nx ?_ | (refine WP.condBit rfl ?_ ?_) | (refine WP.cond rfl ?_ ?_ <;> intro hcond) | refine rb ?_ | refine nd ?_ | refine dk ?_ | fail)
  refine WP.loop (ι := Nat) (fun k => ⟨[(3, .optr 3 0), (4, .optr 4 0), (5, .optr 5 0), (10, .fv (slOf encSw c.ss)), (11, .fv (.int .i64 c.ss.length)), (12, .fv (.int .i64 k))], [(3, .box 26 ((encCf c).map .fv)), (4, .box 3 [.fv (.int .i64 tenant)]), (5, .box 3 [.fv (.int .i64 ip)])]⟩)
    (fun k => k ≤ c.ss.length ∧ c.ss.any (fun s => s.tenant == tenant && s.gate == ip) = (c.ss.drop k).any (fun s => s.tenant == tenant && s.gate == ip)) (fun k => c.ss.length - k) 0 ⟨by omega, rfl⟩ ?_ ?_
  · skip
    refine St.le_of ?_ ?_ <;> (repeat' (first | exact trivial | refine ⟨⟨_, rfl, .refl _⟩, ?_⟩ | refine ⟨⟨_, rfl, .any _⟩, ?_⟩ | refine ⟨⟨_, rfl, .of_eq ?_⟩, ?_⟩ | refine ⟨⟨_, rfl, fun _ _ _ _ h => h⟩, ?_⟩ | fail))
  rintro k ⟨hk, hd⟩
  try dsimp only
  by_cases hlt : k < c.ss.length
  case neg =>
    repeat' (first | (apply X.loE; (· exact aR); (· first | exact .callL rfl rfl rfl (containsPo_T c.ps _ [.fptr [.int .i64 ip], .fptr (encCf c), .fptr [.int .i64 tenant]] (fun p => p.ip == ip && tenantAt c.ss p.sw == tenant) hl.2.1 (fun p hp => taken1_T c p tenant ip hl1 (hw p hp))) rfl | exact bl (containsPo_T c.ps _ [.fptr [.int .i64 ip], .fptr (encCf c), .fptr [.int .i64 tenant]] (fun p => p.ip == ip && tenantAt c.ss p.sw == tenant) hl.2.1 (fun p hp => taken1_T c p tenant ip hl1 (hw p hp))))) | refine X.loc ?_ | refine nx ?_ | (refine WP.condBit rfl ?_ ?_) | (refine WP.cond rfl ?_ ?_ <;> intro hcond) | (apply X.gsE; (· exact aR); (· exact aV); (· exact aW); (· intro hc; first | exact .callG rfl rfl rfl (containsPo_T c.ps _ [.fptr [.int .i64 ip], .fptr (encCf c), .fptr [.int .i64 tenant]] (fun p => p.ip == ip && tenantAt c.ss p.sw == tenant) hl.2.1 (fun p hp => taken1_T c p tenant ip hl1 (hw p hp))) rfl | exact bg (containsPo_T c.ps _ [.fptr [.int .i64 ip], .fptr (encCf c), .fptr [.int .i64 tenant]] (fun p => p.ip == ip && tenantAt c.ss p.sw == tenant) hl.2.1 (fun p hp => taken1_T c p tenant ip hl1 (hw p hp)))); (· exact aR)) | refine rb ?_ | refine nd ?_ | refine dk ?_ | fail)
    · exfalso
      simp at hcond
      omega
    · refine .f1 (.inl rfl) rfl ?_
      unfold takenB
      rw [hd, List.drop_of_length_le (by omega)]
      rfl
  case pos =>
    obtain ⟨x, hx⟩ : ∃ x, c.ss[k]? = some x := ⟨_, List.getElem?_eq_getElem hlt⟩
    have hat := any_at (p := fun s : Sw => s.tenant == tenant && s.gate == ip) hx
    repeat' (first | (apply X.loE; (· exact aR); (· first | (exact .eff (.idxS rfl rfl rfl encSw_len hx)))) | refine X.loc ?_ | refine nx ?_ | (refine WP.condBit rfl ?_ ?_) | (refine WP.cond rfl ?_ ?_ <;> intro hcond) | (apply X.gsE; (· exact aR); (· exact aV); (· exact aW); (· intro hc; first | (exact .eff (.idxS rfl rfl rfl encSw_len hx))); (· exact aR)) | refine rb ?_ | refine nd ?_ | refine dk ?_ | fail)
    · refine .f1 (.inl rfl) rfl ?_
      unfold takenB
      rw [hd, hat, hcond]
      rfl
    · refine ⟨k + 1, ⟨by omega, ?_⟩, by omega, ?_⟩
      · rw [hd, hat, hcond]
        rfl
      · skip
        refine St.le_of ?_ ?_ <;> (repeat' (first | exact trivial | refine ⟨⟨_, rfl, .refl _⟩, ?_⟩ | refine ⟨⟨_, rfl, .any _⟩, ?_⟩ | refine ⟨⟨_, rfl, .of_eq ?_⟩, ?_⟩ | refine ⟨⟨_, rfl, fun _ _ _ _ h => h⟩, ?_⟩ | fail))
    · exfalso
      simp at hcond
      omega
theorem mask_val (b : Nat) (hb : b ≤ 16) : bits .andNot .i64 65535 (65535 / 2 ^ b) = ((65536 - 2 ^ (16 - b) : Nat) : Int) := by
  have : ∀ b : Fin 17, bits .andNot .i64 65535 (65535 / 2 ^ b.val) = ((65536 - 2 ^ (16 - b.val) : Nat) : Int) := by decide
  exact this ⟨b, by omega⟩
theorem mask_T (b : Nat) (hb : b ≤ 16) : Fun Try.prog 95 [.fv (.int .i64 b)] (.fv (.int .i64 ((65536 - 2 ^ (16 - b) : Nat) : Int))) := by
  have hb64 : (b : Int) ≤ (IntKind.i64).bits := by show (b : Int) ≤ 64; omega
  refine Fun.body tbl_ok Try.func95 rfl (by kernel_rfl) rfl rfl rfl ?_
  repeat' (first | (apply X.loE; (· exact aR); (· first | (exact .eff (.shr rfl rfl (by omega) hb64)))) | refine X.loc ?_ | refine nx ?_ | (refine WP.condBit rfl ?_ ?_) | (refine WP.cond rfl ?_ ?_ <;> intro hcond) | (apply X.gsE; (· exact aR); (· exact aV); (· exact aW); (· intro hc; first | (exact .eff (.shr rfl rfl (by omega) hb64))); (· exact aR)) | refine rb ?_ | refine nd ?_ | refine dk ?_ | fail)
  refine .f1 (.inl rfl) rfl ?_
  rw [Int.toNat_natCast]
  have := mask_val b hb
  congr 1
theorem andNot_mask (a b : Nat) (ha : a ≤ 65535) (hb : b ≤ 16) : bits .andNot .i64 (a : Int) ((65536 - 2 ^ (16 - b) : Nat) : Int) = ((a % 2 ^ (16 - b) : Nat) : Int) := by
  have hm : 65536 - 2 ^ (16 - b) ≤ 65535 := by have := Nat.two_pow_pos (16 - b); omega
  generalize hmm : 65536 - 2 ^ (16 - b) = m at hm
  have e : bits .andNot .i64 (a : Int) (m : Int) = IntKind.i64.wrap ((BitVec.ofInt 64 (a : Int) &&& ~~~ BitVec.ofInt 64 (m : Int)).toNat : Int) := rfl
  have h1 : (BitVec.ofInt 64 (a : Int) &&& ~~~ BitVec.ofInt 64 (m : Int)).toNat = a &&& (2 ^ 64 - (m + 1)) := by
    rw [BitVec.toNat_and, BitVec.toNat_not, ofInt_i64 a (by omega), ofInt_i64 m (by omega)]
    congr 1
    omega
  have h2 : a &&& (2 ^ 64 - (m + 1)) ≤ a := Nat.and_le_left
  rw [e, h1, IntKind.wrap_i64]
  have h3 : a &&& (2 ^ 64 - (m + 1)) = a % 2 ^ (16 - b) := by
    apply Nat.eq_of_testBit_eq
    intro i
    rw [Nat.testBit_and, Nat.testBit_mod_two_pow]
    rcases Nat.lt_or_ge i 16 with hi | hi
    · rw [Nat.testBit_two_pow_sub_succ (by omega), ← hmm]
      have key : ∀ b : Fin 17, ∀ i : Fin 16, (decide (i.val < 64) && !(65536 - 2 ^ (16 - b.val)).testBit i.val) = decide (i.val < 16 - b.val) := by decide
      have := key ⟨b, by omega⟩ ⟨i, hi⟩
      simp only at this
      rw [this, Bool.and_comm]
    · have : a.testBit i = false := Nat.testBit_lt_two_pow (Nat.lt_of_le_of_lt ha (Nat.lt_of_lt_of_le (show 65535 < 2 ^ 16 by omega) (Nat.pow_le_pow_right (by omega) hi)))
      simp [this]
  rw [h3]
  have := Nat.mod_le a (2 ^ (16 - b))
  omega
end Go.Proofs.Ytmidechdlbcepaa

namespace Go.Proofs.Ytmidechdlbcepaa
open Go.RowKit
set_option maxRecDepth 100000

end Go.Proofs.Ytmidechdlbcepaa

namespace Go.Proofs.Ytmidechdlbcepaa
open Go.RowKit
set_option maxRecDepth 100000

theorem Eff.idxD {α : Type} {enc : α → List FV} {T : Tbl} {ρ : Operand → AV} {H : Own} {d t : Nat} {x y : Operand} {l : List α} {e s b : Nat} {k : IntKind} {i : Int} (d0 : α) (h1 : ρ x = .fv (slOf enc l)) (h2 : ρ y = .fv (.int k i)) (h3 : lk T.sli t = some (e, s, b)) (hs : ∀ x, (enc x).length = s) (hi : 0 ≤ i ∧ i < l.length) :
    Eff T ρ H d (.indexAddr t x y) (.fptr (enc (l.getD i.toNat d0))) [] := by
  obtain ⟨n, rfl⟩ := Int.eq_ofNat_of_zero_le hi.1
  have hlt : n < l.length := by omega
  refine Eff.idxS h1 h2 h3 hs (u := l.getD n d0) ?_
  simp [List.getElem?_eq_getElem hlt]
end Go.Proofs.Ytmidechdlbcepaa

namespace Go.Proofs.Ytmidechdlbcepaa
open Go.RowKit
set_option maxRecDepth 100000

def wdFrom (p : Pk) (k : Nat) : Bool := (p.fields.drop k).all word
theorem wdFrom_at {p : Pk} {k : Nat} (h : k < 10) : wdFrom p k = (word (getP p k) && wdFrom p (k + 1)) := by
  match k, h with
  | 0, _ | 1, _ | 2, _ | 3, _ | 4, _ | 5, _ | 6, _ | 7, _ | 8, _ | 9, _ => rfl
  | k + 10, h => omega
theorem getPv {p : Pk} {k : Nat} (h : k < 10) : (((encPk p).map AV.fv).take 10)[(k : Int).toNat]? = some (.fv (.int .i64 (getP p k))) := by
  rw [Int.toNat_natCast]
  match k, h with
  | 0, _ | 1, _ | 2, _ | 3, _ | 4, _ | 5, _ | 6, _ | 7, _ | 8, _ | 9, _ => rfl
  | k + 10, h => omega
theorem packetFault_wd (p : Pk) : packetFault p = if wdFrom p 0 = false then 2 else if p.body.size > 40 then 1 else 0 := by
  unfold packetFault wdFrom
  rw [List.drop_zero]
  cases p.fields.all word <;> simp
set_option maxHeartbeats 1000000 in
theorem checkPacket_T (p : Pk) : Fun Try.prog 45 [.agg ((encPk p).map .fv)] (.fv (.int .i64 (packetFault p))) := by
  have hpf := packetFault_wd p
  refine Fun.body tbl_ok Try.func45 rfl (by kernel_rfl) rfl rfl rfl ?_
  repeat' (first | refine X.loc ?_ | refine nx ?_ | (refine WP.condBit rfl ?_ ?_) | (refine WP.cond rfl ?_ ?_ <;> intro hcond) | refine rb ?_ | refine nd ?_ | refine dk ?_ | fail)
  refine WP.loop (ι := Nat) (fun k => ⟨[(1, .optr 1 0), (6, .agg (((encPk p).map .fv).take 10)), (7, .fv (.int .i64 k))], [(1, .box 50 ((encPk p).map .fv))]⟩) (fun k => k ≤ 10 ∧ wdFrom p 0 = wdFrom p k) (fun k => 10 - k) 0 ⟨by omega, rfl⟩ ?_ ?_
  · skip
    refine St.le_of ?_ ?_ <;> (repeat' (first | exact trivial | refine ⟨⟨_, rfl, .refl _⟩, ?_⟩ | refine ⟨⟨_, rfl, .any _⟩, ?_⟩ | refine ⟨⟨_, rfl, .of_eq ?_⟩, ?_⟩ | refine ⟨⟨_, rfl, fun _ _ _ _ h => h⟩, ?_⟩ | fail))
  rintro k ⟨hk, hd⟩
  try dsimp only
  by_cases hlt : k < 10
  case neg =>
    have hek : k = 10 := by omega
    subst hek
    have hw : wdFrom p 0 = true := hd
    repeat' (first | refine X.loc ?_ | refine nx ?_ | (refine WP.condBit rfl ?_ ?_) | (refine WP.cond rfl ?_ ?_ <;> intro hcond) | refine rb ?_ | refine nd ?_ | refine dk ?_ | fail)
    · refine .f1 (.inl rfl) rfl ?_
      simp at hcond
      rw [hpf, hw, if_neg (by simp), if_pos (by omega)]
    · refine .f1 (.inl rfl) rfl ?_
      simp at hcond
      rw [hpf, hw, if_neg (by simp), if_neg (by omega)]
  case pos =>
    have hat := wdFrom_at (p := p) hlt
    repeat' (first | (apply X.loE; (· exact aR); (· first | (exact .eff (.idxV rfl rfl rfl rfl rfl (by omega) (by omega) (getPv hlt))) | exact .callL rfl rfl rfl (fword_T _) rfl | exact bl (fword_T _))) | refine X.loc ?_ | refine nx ?_ | (refine WP.condBit rfl ?_ ?_) | (refine WP.cond rfl ?_ ?_ <;> intro hcond) | (apply X.gsE; (· exact aR); (· exact aV); (· exact aW); (· intro hc; first | (exact .eff (.idxV rfl rfl rfl rfl rfl (by omega) (by omega) (getPv hlt))) | exact .callG rfl rfl rfl (fword_T _) rfl | exact bg (fword_T _)); (· exact aR)) | refine rb ?_ | refine nd ?_ | refine dk ?_ | fail)
    · refine .f1 (.inl rfl) rfl ?_
      have : wdFrom p 0 = false := by rw [hd, hat]; simp at hcond; rw [hcond]; rfl
      rw [hpf, if_pos this]
    · refine ⟨k + 1, ⟨by omega, ?_⟩, by omega, ?_⟩
      · simp at hcond
        rw [hd, hat, hcond]
        rfl
      · skip
        refine St.le_of ?_ ?_ <;> (repeat' (first | exact trivial | refine ⟨⟨_, rfl, .refl _⟩, ?_⟩ | refine ⟨⟨_, rfl, .any _⟩, ?_⟩ | refine ⟨⟨_, rfl, .of_eq ?_⟩, ?_⟩ | refine ⟨⟨_, rfl, fun _ _ _ _ h => h⟩, ?_⟩ | fail))
    all_goals
      exfalso
      rename_i h
      simp at h
      omega
end Go.Proofs.Ytmidechdlbcepaa

namespace Go.Proofs.Ytmidechdlbcepaa
open Go.RowKit
set_option maxRecDepth 100000

end Go.Proofs.Ytmidechdlbcepaa

namespace Go.Proofs.Ytmidechdlbcepaa
open Go.RowKit
set_option maxRecDepth 100000

end Go.Proofs.Ytmidechdlbcepaa

namespace Go.Proofs.Ytmidechdlbcepaa
open Go.RowKit
set_option maxRecDepth 100000

theorem i64_of_wf {n : Int} (h : (Lit.int .i64 n).wf = true) : -9223372036854775808 ≤ n ∧ n ≤ 9223372036854775807 := by
  simp only [Lit.wf, Bool.and_eq_true, decide_eq_true_eq] at h
  exact ⟨h.1, h.2⟩
def pick (n m : Int) : Int := (if n < 0 then -(n + 1) else n) % m
theorem pick_le {n m : Int} (h : 0 < m) : 0 ≤ pick n m ∧ pick n m < m := ⟨Int.emod_nonneg _ (by omega), Int.emod_lt_of_pos _ h⟩
theorem neg_wrap {n : Int} (h : -9223372036854775808 ≤ n) (h2 : n < 0) : IntKind.i64.wrap (0 - (n + 1)) = -(n + 1) := by
  rw [IntKind.wrap_i64]
  omega
theorem picked_T (n m : Int) (h1 : -9223372036854775808 ≤ n) (h2 : n ≤ 9223372036854775807) (hm : 0 < m) : Fun Try.prog 15 [.fv (.int .i64 n), .fv (.int .i64 m)] (.fv (.int .i64 (pick n m))) := by
  refine Fun.body tbl_ok Try.func15 rfl (by kernel_rfl) rfl rfl rfl ?_
  by_cases hn : n < 0
  case pos =>
    have hw := neg_wrap h1 hn
    have hp : pick n m = -(n + 1) % m := by rw [pick, if_pos hn]
    have hg : 0 ≤ -(n + 1) := by omega
    rw [← hw] at hp hg
    rw [hp]
    repeat' (first | refine X.loc ?_ | refine nx ?_ | refine X.cdT ?_ | refine X.cdF ?_ | (refine WP.condBit rfl ?_ ?_) | (refine WP.cond rfl ?_ ?_ <;> intro hcond) | refine rb ?_ | refine nd ?_ | refine dk ?_ | fail)
    exact .f1 (.inl rfl) rfl rfl
  case neg =>
    have hp : pick n m = n % m := by rw [pick, if_neg hn]
    rw [hp]
    repeat' (first | refine X.loc ?_ | refine nx ?_ | refine X.cdT ?_ | refine X.cdF ?_ | (refine WP.condBit rfl ?_ ?_) | (refine WP.cond rfl ?_ ?_ <;> intro hcond) | refine rb ?_ | refine nd ?_ | refine dk ?_ | fail)
    exact .f1 (.inl rfl) rfl rfl
end Go.Proofs.Ytmidechdlbcepaa

namespace Go.Proofs.Ytmidechdlbcepaa
open Go.RowKit

structure Rq where
  kind : Int
  a : Int
  b : Int
  c : Int
def encRq (r : Rq) : List FV := [.int .i64 r.kind, .int .i64 r.a, .int .i64 r.b, .int .i64 r.c]
def N64 (n : Int) : Prop := -9223372036854775808 ≤ n ∧ n ≤ 9223372036854775807
structure Rq.Ok (r : Rq) : Prop where
  kind : N64 r.kind
  a : N64 r.a
  b : N64 r.b
  c : N64 r.c
def encI (n : Int) : List FV := [.int .i64 n]
theorem quoT_bd {n m : Int} (h : N64 n) (hm : 1 < m) : -4611686018427387904 ≤ n.tdiv m ∧ n.tdiv m ≤ 4611686018427387904 := by
  obtain ⟨h1, h2⟩ := h
  have e := Int.tmod_add_mul_tdiv n m
  have hlt : n.tmod m < m := Int.tmod_lt_of_pos n (by omega)
  rcases Int.lt_or_le n 0 with h | h
  · have e2 : n.tdiv m = -((-n) / m) := by
      rw [← Int.neg_neg n, Int.neg_tdiv, Int.tdiv_eq_ediv_of_nonneg (by omega), Int.neg_neg]
    have h3 : 0 ≤ (-n) / m := Int.ediv_nonneg (by omega) (by omega)
    have h4 : (-n) / m * m ≤ -n := Int.ediv_mul_le _ (by omega)
    have h5 : (-n) / m * 2 ≤ (-n) / m * m := Int.mul_le_mul_of_nonneg_left (by omega) h3
    omega
  · have e2 : n.tdiv m = n / m := Int.tdiv_eq_ediv_of_nonneg h
    have h3 : 0 ≤ n / m := Int.ediv_nonneg h (by omega)
    have h4 : n / m * m ≤ n := Int.ediv_mul_le _ (by omega)
    have h5 : n / m * 2 ≤ n / m * m := Int.mul_le_mul_of_nonneg_left (by omega) h3
    omega
theorem Eff.quoT {T : Tbl} {ρ : Operand → AV} {H : Own} {d t u : Nat} {x y : Operand} {a b : Int} (h1 : ρ x = .fv (.int .i64 a)) (h2 : ρ y = .fv (.int .i64 b)) (h3 : N64 a) (h4 : 1 < b) : Eff T ρ H d (.binOp .quo t x y u) (.fv (.int .i64 (a.tdiv b))) [] := by
  have := Eff.quo (T := T) (H := H) (d := d) (t := t) (u := u) h1 h2 (by omega)
  have hb := quoT_bd h3 h4
  rwa [I64.wrap (by omega) (by omega)] at this

end Go.Proofs.Ytmidechdlbcepaa

namespace Go.Proofs.Ytmidechdlbcepaa
open Go.RowKit
set_option maxRecDepth 100000

end Go.Proofs.Ytmidechdlbcepaa

namespace Go.Proofs.Ytmidechdlbcepaa
open Go.RowKit
set_option maxRecDepth 100000

def pkZ : Pk := ⟨0, 0, 0, 0, 0, 0, 0, 0, 0, 0, ⟨#[]⟩⟩
end Go.Proofs.Ytmidechdlbcepaa

namespace Go.Proofs.Ytmidechdlbcepaa
open Go.RowKit
set_option maxRecDepth 100000

theorem size_nil (s : ByteArray) : (!(s.toList == (⟨#[]⟩ : ByteArray).toList)) = decide (s.size ≠ 0) := by
  have h1 : (⟨#[]⟩ : ByteArray).toList = [] := by rw [ByteArray.toList_eq]
  have h2 := toList_isEmpty s
  rw [h1]
  cases h : s.toList with
  | nil => rw [h] at h2; simp at h2; simp [h2]
  | cons a l => rw [h] at h2; simp at h2; simp [h2]
theorem frameFault_b (f : Fr) : frameFault f = if (decide (f.kind < 1) || decide (f.kind > 3)) = true then 3
    else if (!word f.dst || !word f.src || !word f.ipSrc || !word f.ipDst || !word f.port || decide (f.ttl < 0) || decide (f.ttl > 255)) = true then 2
    else if decide ((f.body.size : Int) > 40) = true then 1
    else if (f.kind != 3 && (f.ttl != 0 || f.port != 0 || !f.body.toList == (⟨#[]⟩ : ByteArray).toList)) = true then 4 else 0 := by
  unfold frameFault
  rw [size_nil]
  have e1 : (f.kind < 1 ∨ 3 < f.kind) = ((decide (f.kind < 1) || decide (f.kind > 3)) = true) := by simp
  have e2 : (word f.dst = false ∨ word f.src = false ∨ word f.ipSrc = false ∨ word f.ipDst = false ∨ word f.port = false ∨ f.ttl < 0 ∨ 255 < f.ttl) = ((!word f.dst || !word f.src || !word f.ipSrc || !word f.ipDst || !word f.port || decide (f.ttl < 0) || decide (f.ttl > 255)) = true) := by simp [or_assoc]
  have e3 : (40 < f.body.size) = (decide ((f.body.size : Int) > 40) = true) := by simp; omega
  have e4 : (f.kind ≠ 3 ∧ (f.ttl ≠ 0 ∨ f.port ≠ 0 ∨ f.body.size ≠ 0)) = ((f.kind != 3 && (f.ttl != 0 || f.port != 0 || decide (f.body.size ≠ 0))) = true) := by simp [or_assoc]
  simp only [e1, e2, e3, e4]
set_option maxHeartbeats 2000000 in
theorem wireCheck_T (f : Fr) : Fun Try.prog 44 [.agg ((encFr f).map .fv)] (.fv (.int .i64 (frameFault f))) := by
  have hb := frameFault_b f
  refine Fun.body tbl_ok Try.func44 rfl (by kernel_rfl) rfl rfl rfl ?_
  repeat' (first | (apply X.loE; (· exact aR); (· first | exact .callL rfl rfl rfl (wword_T _) rfl | exact bl (wword_T _))) | refine X.loc ?_ | refine nx ?_ | (refine WP.condBit rfl ?_ ?_) | (refine WP.cond rfl ?_ ?_ <;> intro hcond) | (apply X.gsE; (· exact aR); (· exact aV); (· exact aW); (· intro hc; first | exact .callG rfl rfl rfl (wword_T _) rfl | exact bg (wword_T _)); (· exact aR)) | refine rb ?_ | refine nd ?_ | refine dk ?_ | fail)
  all_goals
    refine .f1 (.inl rfl) rfl ?_
    rw [hb]
    simp only [*]
    rfl
def l5 (f : Fr) : Nat → Int
  | 0 => f.dst
  | 1 => f.src
  | 2 => f.ipSrc
  | 3 => f.ipDst
  | _ => f.port
def w5 (f : Fr) (k : Nat) : Bool := ([f.dst, f.src, f.ipSrc, f.ipDst, f.port].drop k).all word
end Go.Proofs.Ytmidechdlbcepaa

namespace Go.Proofs.Ytmidechdlbcepaa
open Go.RowKit
set_option maxRecDepth 100000

def pkE (f : Fr) (i n t : Int) : Int := if frameFault f ≠ 0 then frameFault f else packetFault (pkOf f i n t)
def pkR (f : Fr) (i n t : Int) : Pk := if pkE f i n t ≠ 0 then pkZ else pkOf f i n t
set_option maxHeartbeats 4000000 in
theorem packet_T (f : Fr) (i n t : Int) : Fun Try.prog 17 [.agg ((encFr f).map .fv), .fv (.int .i64 i), .fv (.int .i64 n), .fv (.int .i64 t)] (.tup [.agg ((encPk (pkR f i n t)).map .fv), .fv (.int .i64 (pkE f i n t))]) := by
  have c1 := wireCheck_T f
  have c2 := checkPacket_T (pkOf f i n t)
  refine Fun.body tbl_ok Try.func17 rfl (by kernel_rfl) rfl rfl rfl ?_
  unfold pkR pkE
  by_cases h1 : frameFault f = 0
  · rw [if_neg (show ¬ frameFault f ≠ 0 by omega)]
    by_cases h2 : packetFault (pkOf f i n t) = 0
    · rw [if_neg (show ¬ packetFault (pkOf f i n t) ≠ 0 by omega), h2]
      rw [h1] at c1
      rw [h2] at c2
      repeat' (first | (apply X.loE; (· exact aR); (· first | exact .callL rfl rfl rfl (by first | exact c1 | exact c2) rfl | exact bl (c1) | exact bl (c2))) | refine X.loc ?_ | refine nx ?_ | refine X.cdT ?_ | refine X.cdF ?_ | (refine WP.condBit rfl ?_ ?_) | (refine WP.cond rfl ?_ ?_ <;> intro hcond) | (apply X.gsE; (· exact aR); (· exact aV); (· exact aW); (· intro hc; first | exact .callG rfl rfl rfl (by first | exact c1 | exact c2) rfl | exact bg (c1) | exact bg (c2)); (· exact aR)) | refine rb ?_ | refine nd ?_ | refine dk ?_ | fail)
      exact .fun (.inl rfl) rfl rfl
    · rw [if_pos h2]
      rw [h1] at c1
      generalize packetFault (pkOf f i n t) = e at *
      repeat' (first | (apply X.loE; (· exact aR); (· first | exact .callL rfl rfl rfl (by first | exact c1 | exact c2) rfl | exact bl (c1) | exact bl (c2))) | refine X.loc ?_ | refine nx ?_ | refine X.cdT ?_ | refine X.cdF ?_ | (refine WP.condBit rfl ?_ ?_) | (refine WP.cond rfl ?_ ?_ <;> intro hcond) | (apply X.gsE; (· exact aR); (· exact aV); (· exact aW); (· intro hc; first | exact .callG rfl rfl rfl (by first | exact c1 | exact c2) rfl | exact bg (c1) | exact bg (c2)); (· exact aR)) | refine rb ?_ | refine nd ?_ | refine dk ?_ | fail)
      exact .fun (.inl rfl) rfl rfl
  · rw [if_pos h1, if_pos h1]
    generalize frameFault f = e at *
    repeat' (first | (apply X.loE; (· exact aR); (· first | exact .callL rfl rfl rfl (c1) rfl | exact bl (c1))) | refine X.loc ?_ | refine nx ?_ | refine X.cdT ?_ | refine X.cdF ?_ | (refine WP.condBit rfl ?_ ?_) | (refine WP.cond rfl ?_ ?_ <;> intro hcond) | (apply X.gsE; (· exact aR); (· exact aV); (· exact aW); (· intro hc; first | exact .callG rfl rfl rfl (c1) rfl | exact bg (c1)); (· exact aR)) | refine rb ?_ | refine nd ?_ | refine dk ?_ | fail)
    exact .fun (.inl rfl) rfl rfl
def frR (p : Pk) : Fr := if frameFault (frOfP p) ≠ 0 then frZ else frOfP p
set_option maxHeartbeats 4000000 in
theorem pframe_T (p : Pk) : Fun Try.prog 18 [.agg ((encPk p).map .fv)] (.tup [.agg ((encFr (frR p)).map .fv), .fv (.int .i64 (frameFault (frOfP p)))]) := by
  have c1 := wireCheck_T (frOfP p)
  refine Fun.body tbl_ok Try.func18 rfl (by kernel_rfl) rfl rfl rfl ?_
  unfold frR
  by_cases h1 : frameFault (frOfP p) = 0
  · rw [if_neg (show ¬ frameFault (frOfP p) ≠ 0 by omega), h1]
    rw [h1] at c1
    repeat' (first | (apply X.loE; (· exact aR); (· first | exact .callL rfl rfl rfl (c1) rfl | exact bl (c1))) | refine X.loc ?_ | refine nx ?_ | refine X.cdT ?_ | refine X.cdF ?_ | (refine WP.condBit rfl ?_ ?_) | (refine WP.cond rfl ?_ ?_ <;> intro hcond) | (apply X.gsE; (· exact aR); (· exact aV); (· exact aW); (· intro hc; first | exact .callG rfl rfl rfl (c1) rfl | exact bg (c1)); (· exact aR)) | refine rb ?_ | refine nd ?_ | refine dk ?_ | fail)
    exact .fun (.inl rfl) rfl rfl
  · rw [if_pos h1]
    generalize frameFault (frOfP p) = e at *
    repeat' (first | (apply X.loE; (· exact aR); (· first | exact .callL rfl rfl rfl (c1) rfl | exact bl (c1))) | refine X.loc ?_ | refine nx ?_ | refine X.cdT ?_ | refine X.cdF ?_ | (refine WP.condBit rfl ?_ ?_) | (refine WP.cond rfl ?_ ?_ <;> intro hcond) | (apply X.gsE; (· exact aR); (· exact aV); (· exact aW); (· intro hc; first | exact .callG rfl rfl rfl (c1) rfl | exact bg (c1)); (· exact aR)) | refine rb ?_ | refine nd ?_ | refine dk ?_ | fail)
    exact .fun (.inl rfl) rfl rfl
end Go.Proofs.Ytmidechdlbcepaa

namespace Go.Proofs.Ytmidechdlbcepaa
open Go.RowKit
set_option maxRecDepth 100000

theorem isNaN_T (n : Int) : Fun Try.prog 115 [.fv (.int .i64 n)] (.fv (.bool false)) := by
  refine Fun.body tbl_ok Try.func115 rfl (by kernel_rfl) rfl rfl rfl ?_
  repeat' (first | refine X.loc ?_ | refine nx ?_ | (refine WP.condBit rfl ?_ ?_) | (refine WP.cond rfl ?_ ?_ <;> intro hcond) | refine rb ?_ | refine nd ?_ | refine dk ?_ | fail)
  refine .f1 (.inl rfl) rfl ?_
  simp
theorem compare_T (a b : Int) : Fun Try.prog 88 [.fv (.int .i64 a), .fv (.int .i64 b)] (.fv (.int .i64 (cmpI a b))) := by
  refine Fun.body tbl_ok Try.func88 rfl (by kernel_rfl) rfl rfl rfl ?_
  by_cases h1 : a < b
  · have e : cmpI a b = -1 := if_pos h1
    rw [e]
    repeat' (first | (apply X.loE; (· exact aR); (· first | exact .callL rfl rfl rfl (by first | exact isNaN_T a | exact isNaN_T b) rfl | exact bl (isNaN_T a) | exact bl (isNaN_T b))) | refine X.loc ?_ | refine nx ?_ | refine X.cdT ?_ | refine X.cdF ?_ | (refine WP.condBit rfl ?_ ?_) | (refine WP.cond rfl ?_ ?_ <;> intro hcond) | (apply X.gsE; (· exact aR); (· exact aV); (· exact aW); (· intro hc; first | exact .callG rfl rfl rfl (by first | exact isNaN_T a | exact isNaN_T b) rfl | exact bg (isNaN_T a) | exact bg (isNaN_T b)); (· exact aR)) | refine rb ?_ | refine nd ?_ | refine dk ?_ | fail)
    exact .f1 (.inl rfl) rfl rfl
  · by_cases h2 : b < a
    · have e : cmpI a b = 1 := by rw [cmpI, if_neg h1, if_pos h2]
      rw [e]
      repeat' (first | (apply X.loE; (· exact aR); (· first | exact .callL rfl rfl rfl (by first | exact isNaN_T a | exact isNaN_T b) rfl | exact bl (isNaN_T a) | exact bl (isNaN_T b))) | refine X.loc ?_ | refine nx ?_ | refine X.cdT ?_ | refine X.cdF ?_ | (refine WP.condBit rfl ?_ ?_) | (refine WP.cond rfl ?_ ?_ <;> intro hcond) | (apply X.gsE; (· exact aR); (· exact aV); (· exact aW); (· intro hc; first | exact .callG rfl rfl rfl (by first | exact isNaN_T a | exact isNaN_T b) rfl | exact bg (isNaN_T a) | exact bg (isNaN_T b)); (· exact aR)) | refine rb ?_ | refine nd ?_ | refine dk ?_ | fail)
      exact .f1 (.inl rfl) rfl rfl
    · have e : cmpI a b = 0 := by rw [cmpI, if_neg h1, if_neg h2]
      rw [e]
      repeat' (first | (apply X.loE; (· exact aR); (· first | exact .callL rfl rfl rfl (by first | exact isNaN_T a | exact isNaN_T b) rfl | exact bl (isNaN_T a) | exact bl (isNaN_T b))) | refine X.loc ?_ | refine nx ?_ | refine X.cdT ?_ | refine X.cdF ?_ | (refine WP.condBit rfl ?_ ?_) | (refine WP.cond rfl ?_ ?_ <;> intro hcond) | (apply X.gsE; (· exact aR); (· exact aV); (· exact aW); (· intro hc; first | exact .callG rfl rfl rfl (by first | exact isNaN_T a | exact isNaN_T b) rfl | exact bg (isNaN_T a) | exact bg (isNaN_T b)); (· exact aR)) | refine rb ?_ | refine nd ?_ | refine dk ?_ | fail)
      exact .f1 (.inl rfl) rfl rfl
theorem compareL_T (l m : List Int) (hl : l.length < 9223372036854775807) (hm : m.length < 9223372036854775807) : Fun Try.prog 89 [.fv (slOf encI l), .fv (slOf encI m)] (.fv (.int .i64 (cmpL l m))) := by
  refine Fun.body tbl_ok Try.func89 rfl (by kernel_rfl) rfl rfl rfl ?_
  repeat' (first | refine X.loc ?_ | refine nx ?_ | (refine WP.condBit rfl ?_ ?_) | (refine WP.cond rfl ?_ ?_ <;> intro hcond) | refine rb ?_ | refine nd ?_ | refine dk ?_ | fail)
  refine WP.loop (ι := Nat) (fun k => ⟨[(0, .fv (slOf encI l)), (1, .fv (slOf encI m)), (9, .fv (slOf encI l)), (10, .fv (.int .i64 l.length)), (11, .fv (.int .i64 k))], []⟩) (fun k => k ≤ l.length ∧ k ≤ m.length ∧ cmpL l m = cmpL (l.drop k) (m.drop k)) (fun k => l.length - k) 0 ⟨by omega, by omega, rfl⟩ ?_ ?_
  · skip
    refine St.le_of ?_ ?_ <;> (repeat' (first | exact trivial | refine ⟨⟨_, rfl, .refl _⟩, ?_⟩ | refine ⟨⟨_, rfl, .any _⟩, ?_⟩ | refine ⟨⟨_, rfl, .of_eq ?_⟩, ?_⟩ | refine ⟨⟨_, rfl, fun _ _ _ _ h => h⟩, ?_⟩ | fail))
  rintro k ⟨hk, hkm, he⟩
  try dsimp only
  by_cases hlt : k < l.length
  case neg =>
    have hd : l.drop k = [] := List.drop_eq_nil_of_le (by omega)
    rw [he, hd]
    by_cases h2 : l.length < m.length
    · obtain ⟨y, r, hy⟩ : ∃ y r, m.drop k = y :: r := ⟨_, _, List.drop_eq_getElem_cons (by omega)⟩
      rw [hy, cmpL]
      repeat' (first | refine X.loc ?_ | refine nx ?_ | refine X.cdT ?_ | refine X.cdF ?_ | (refine WP.condBit rfl ?_ ?_) | (refine WP.cond rfl ?_ ?_ <;> intro hcond) | refine rb ?_ | refine nd ?_ | refine dk ?_ | fail)
      exact .f1 (.inl rfl) rfl rfl
    · rw [List.drop_eq_nil_of_le (show m.length ≤ k by omega), cmpL]
      repeat' (first | refine X.loc ?_ | refine nx ?_ | refine X.cdT ?_ | refine X.cdF ?_ | (refine WP.condBit rfl ?_ ?_) | (refine WP.cond rfl ?_ ?_ <;> intro hcond) | refine rb ?_ | refine nd ?_ | refine dk ?_ | fail)
      exact .f1 (.inl rfl) rfl rfl
  case pos =>
    obtain ⟨x, hx⟩ : ∃ x, l[k]? = some x := ⟨_, List.getElem?_eq_getElem hlt⟩
    have hdx : l.drop k = x :: l.drop (k + 1) := by rw [List.drop_eq_getElem_cons hlt, (List.getElem?_eq_some_iff.1 hx).2]
    by_cases h2 : k < m.length
    case neg =>
      rw [he, hdx, List.drop_eq_nil_of_le (show m.length ≤ k by omega), cmpL]
      repeat' (first | refine X.loc ?_ | refine nx ?_ | refine X.cdT ?_ | refine X.cdF ?_ | (refine WP.condBit rfl ?_ ?_) | (refine WP.cond rfl ?_ ?_ <;> intro hcond) | refine rb ?_ | refine nd ?_ | refine dk ?_ | fail)
      exact .f1 (.inl rfl) rfl rfl
    case pos =>
      obtain ⟨y, hy⟩ : ∃ y, m[k]? = some y := ⟨_, List.getElem?_eq_getElem h2⟩
      have hdy : m.drop k = y :: m.drop (k + 1) := by rw [List.drop_eq_getElem_cons h2, (List.getElem?_eq_some_iff.1 hy).2]
      rw [hdx, hdy, cmpL] at he
      have hc := compare_T x y
      generalize cmpI x y = c at *
      by_cases h0 : c = 0
      · rw [if_neg (by omega)] at he
        subst h0
        repeat' (first | (apply X.loE; (· exact aR); (· first | exact .callL rfl rfl rfl (hc) rfl | exact bl (hc))) | refine X.loc ?_ | refine nx ?_ | refine X.cdT ?_ | refine X.cdF ?_ | (refine WP.condBit rfl ?_ ?_) | (refine WP.cond rfl ?_ ?_ <;> intro hcond) | (apply X.gsE; (· exact aR); (· exact aV); (· exact aW); (· intro hc; first | exact .callG rfl rfl rfl (hc) rfl | exact bg (hc)); (· exact aR)) | refine rb ?_ | refine nd ?_ | refine dk ?_ | fail)
        refine ⟨k + 1, ⟨by omega, by omega, he⟩, by omega, ?_⟩
        refine St.le_of ?_ ?_ <;> (repeat' (first | exact trivial | refine ⟨⟨_, rfl, .refl _⟩, ?_⟩ | refine ⟨⟨_, rfl, .any _⟩, ?_⟩ | refine ⟨⟨_, rfl, .of_eq ?_⟩, ?_⟩ | refine ⟨⟨_, rfl, fun _ _ _ _ h => h⟩, ?_⟩ | fail))
      · rw [if_pos h0] at he
        rw [he]
        repeat' (first | (apply X.loE; (· exact aR); (· first | exact .callL rfl rfl rfl (hc) rfl | exact bl (hc))) | refine X.loc ?_ | refine nx ?_ | refine X.cdT ?_ | refine X.cdF ?_ | (refine WP.condBit rfl ?_ ?_) | (refine WP.cond rfl ?_ ?_ <;> intro hcond) | (apply X.gsE; (· exact aR); (· exact aV); (· exact aW); (· intro hc; first | exact .callG rfl rfl rfl (hc) rfl | exact bg (hc)); (· exact aR)) | refine rb ?_ | refine nd ?_ | refine dk ?_ | fail)
        exact .f1 (.inl rfl) rfl rfl
def orR : List Int → Int
  | [] => 0
  | x :: l => if x ≠ 0 then x else orR l
theorem or_T (l : List Int) (hl : l.length < 9223372036854775807) : Fun Try.prog 87 [.fv (slOf encI l)] (.fv (.int .i64 (orR l))) := by
  refine Fun.body tbl_ok Try.func87 rfl (by kernel_rfl) rfl rfl rfl ?_
  repeat' (first | refine X.loc ?_ | refine nx ?_ | (refine WP.condBit rfl ?_ ?_) | (refine WP.cond rfl ?_ ?_ <;> intro hcond) | refine rb ?_ | refine nd ?_ | refine dk ?_ | fail)
  refine WP.loop (ι := Nat) (fun k => ⟨[(0, .fv (slOf encI l)), (3, .fv (.int .i64 0)), (6, .fv (slOf encI l)), (7, .fv (.int .i64 l.length)), (8, .fv (.int .i64 k))], []⟩) (fun k => k ≤ l.length ∧ orR l = orR (l.drop k)) (fun k => l.length - k) 0 ⟨by omega, rfl⟩ ?_ ?_
  · skip
    refine St.le_of ?_ ?_ <;> (repeat' (first | exact trivial | refine ⟨⟨_, rfl, .refl _⟩, ?_⟩ | refine ⟨⟨_, rfl, .any _⟩, ?_⟩ | refine ⟨⟨_, rfl, .of_eq ?_⟩, ?_⟩ | refine ⟨⟨_, rfl, fun _ _ _ _ h => h⟩, ?_⟩ | fail))
  rintro k ⟨hk, he⟩
  try dsimp only
  by_cases hlt : k < l.length
  case neg =>
    rw [he, List.drop_eq_nil_of_le (by omega), orR]
    repeat' (first | refine X.loc ?_ | refine nx ?_ | refine X.cdT ?_ | refine X.cdF ?_ | (refine WP.condBit rfl ?_ ?_) | (refine WP.cond rfl ?_ ?_ <;> intro hcond) | refine rb ?_ | refine nd ?_ | refine dk ?_ | fail)
    exact .f1 (.inl rfl) rfl rfl
  case pos =>
    obtain ⟨x, hx⟩ : ∃ x, l[k]? = some x := ⟨_, List.getElem?_eq_getElem hlt⟩
    have hdx : l.drop k = x :: l.drop (k + 1) := by rw [List.drop_eq_getElem_cons hlt, (List.getElem?_eq_some_iff.1 hx).2]
    rw [hdx, orR] at he
    by_cases h0 : x = 0
    · rw [if_neg (by omega)] at he
      subst h0
      repeat' (first | refine X.loc ?_ | refine nx ?_ | refine X.cdT ?_ | refine X.cdF ?_ | (refine WP.condBit rfl ?_ ?_) | (refine WP.cond rfl ?_ ?_ <;> intro hcond) | refine rb ?_ | refine nd ?_ | refine dk ?_ | fail)
      refine ⟨k + 1, ⟨by omega, he⟩, by omega, ?_⟩
      refine St.le_of ?_ ?_ <;> (repeat' (first | exact trivial | refine ⟨⟨_, rfl, .refl _⟩, ?_⟩ | refine ⟨⟨_, rfl, .any _⟩, ?_⟩ | refine ⟨⟨_, rfl, .of_eq ?_⟩, ?_⟩ | refine ⟨⟨_, rfl, fun _ _ _ _ h => h⟩, ?_⟩ | fail))
    · rw [if_pos h0] at he
      rw [he]
      repeat' (first | refine X.loc ?_ | refine nx ?_ | refine X.cdT ?_ | refine X.cdF ?_ | (refine WP.condBit rfl ?_ ?_) | (refine WP.cond rfl ?_ ?_ <;> intro hcond) | refine rb ?_ | refine nd ?_ | refine dk ?_ | fail)
      exact .f1 (.inl rfl) rfl rfl
def Fl.Fit (f : Fl) : Prop := (2 + 3 * f.ms.length + 3 * f.ds.length) * 8 ≤ 140737488355328
theorem numsOf_len (f : Fl) : (numsOf f).length = 2 + 3 * f.ms.length + 3 * f.ds.length := by
  unfold numsOf
  rw [List.length_append, List.length_append, flat_len (s := 3) (fun _ => rfl), flat_len (s := 3) (fun _ => rfl)]
  rfl
set_option maxHeartbeats 1000000 in
theorem numbersO_T (f : Fl) (hf : f.Fit) : FunO Try.prog 90 [.agg ((encFl f).map .fv)] [] (.osl 7) [(7, .row 3 1 (numsOf f).length (((numsOf f).flatMap encI).map .fv))] := by
  unfold Fl.Fit at hf
  refine FunO.bodyL tbl_ok Try.func90 rfl (by kernel_rfl) rfl rfl rfl ?_
  repeat' (first | refine X.loc ?_ | refine nx ?_ | (refine WP.condBit rfl ?_ ?_) | (refine WP.cond rfl ?_ ?_ <;> intro hcond) | refine rb ?_ | refine nd ?_ | refine dk ?_ | fail)
  refine WP.loop (ι := Nat) (fun k => ⟨[(1, .optr 1 0), (3, .osl 900), (16, .fv (slOf encMx f.ms)), (17, .fv (.int .i64 f.ms.length)), (18, .fv (.int .i64 k))], [(1, .box 74 ((encFl f).map .fv)), (900, .row 3 1 (2 + 3 * k) ((([(f.ms.length : Int), (f.ds.length : Int)] ++ (f.ms.take k).flatMap mx3).flatMap encI).map .fv))]⟩) (fun k => k ≤ f.ms.length) (fun k => f.ms.length - k) 0 (by omega) ?_ ?_
  · skip
    refine St.to [(900, .id 14)] [] rfl rfl ?_ ?_ <;> (repeat' (first | exact tA | refine t1 ?_ | exact tB | refine t2 ?_ ?_ | refine t3 ?_ | refine t4 ?_ ?_ | refine .ofEq ?_ | refine OB.To.cut rfl rfl ?_ ?_ ?_ ?_ | refine OB.To.box rfl rfl ?_ | refine ⟨⟨_, rfl, ?_⟩, ?_⟩ | refine ⟨?_, ?_⟩ | fail))
  rintro k hk
  try dsimp only
  by_cases hlt : k < f.ms.length
  case pos =>
    obtain ⟨x, hx⟩ : ∃ x, f.ms[k]? = some x := ⟨_, List.getElem?_eq_getElem hlt⟩
    have hs : [(f.ms.length : Int), (f.ds.length : Int)] ++ (f.ms.take (k + 1)).flatMap mx3 = ([(f.ms.length : Int), (f.ds.length : Int)] ++ (f.ms.take k).flatMap mx3) ++ [x.field, x.mask, x.value] := by
      rw [List.take_add_one, hx]
      simp [mx3]
    generalize [(f.ms.length : Int), (f.ds.length : Int)] ++ (f.ms.take k).flatMap mx3 = L at *
    repeat' (first | refine X.loc ?_ | refine nx ?_ | refine X.cdT ?_ | refine X.cdF ?_ | (refine WP.condBit rfl ?_ ?_) | (refine WP.cond rfl ?_ ?_ <;> intro hcond) | refine rb ?_ | refine nd ?_ | refine dk ?_ | fail)
    refine ⟨k + 1, by omega, by omega, ?_⟩
    try dsimp only
    rw [hs]
    refine St.to [(900, .id 30)] [] rfl rfl ?_ ?_ <;> (repeat' (first | exact tA | refine t1 ?_ | exact tB | refine t2 ?_ ?_ | refine t3 ?_ | refine t4 ?_ ?_ | refine .ofEq ?_ | refine OB.To.cut rfl rfl ?_ ?_ ?_ ?_ | refine OB.To.box rfl rfl ?_ | refine ⟨⟨_, rfl, ?_⟩, ?_⟩ | refine ⟨?_, ?_⟩ | fail))
    all_goals first | omega | (simp; done) | (simp; omega) | (simp only [List.flatMap_append, List.map_append]; rfl)
  case neg =>
    obtain rfl : k = f.ms.length := by omega
    rw [List.take_length]
    repeat' (first | refine X.loc ?_ | refine nx ?_ | refine X.cdT ?_ | refine X.cdF ?_ | (refine WP.condBit rfl ?_ ?_) | (refine WP.cond rfl ?_ ?_ <;> intro hcond) | refine rb ?_ | refine nd ?_ | refine dk ?_ | fail)
    refine WP.loop (ι := Nat) (fun k => ⟨[(1, .optr 1 0), (3, .osl 900), (33, .fv (slOf encDx f.ds)), (34, .fv (.int .i64 f.ds.length)), (35, .fv (.int .i64 k))], [(1, .box 74 ((encFl f).map .fv)), (900, .row 3 1 (2 + 3 * f.ms.length + 3 * k) ((([(f.ms.length : Int), (f.ds.length : Int)] ++ f.ms.flatMap mx3 ++ (f.ds.take k).flatMap dx3).flatMap encI).map .fv))]⟩) (fun k => k ≤ f.ds.length) (fun k => f.ds.length - k) 0 (by omega) ?_ ?_
    · rw [List.take_zero, List.flatMap_nil, List.append_nil]
      refine St.to [(900, .id 900)] [] rfl rfl ?_ ?_ <;> (repeat' (first | exact tA | refine t1 ?_ | exact tB | refine t2 ?_ ?_ | refine t3 ?_ | refine t4 ?_ ?_ | refine .ofEq ?_ | refine OB.To.cut rfl rfl ?_ ?_ ?_ ?_ | refine OB.To.box rfl rfl ?_ | refine ⟨⟨_, rfl, ?_⟩, ?_⟩ | refine ⟨?_, ?_⟩ | fail))
      all_goals omega
    rintro k hk
    try dsimp only
    by_cases hlt : k < f.ds.length
    case pos =>
      obtain ⟨x, hx⟩ : ∃ x, f.ds[k]? = some x := ⟨_, List.getElem?_eq_getElem hlt⟩
      have hs : [(f.ms.length : Int), (f.ds.length : Int)] ++ f.ms.flatMap mx3 ++ (f.ds.take (k + 1)).flatMap dx3 = ([(f.ms.length : Int), (f.ds.length : Int)] ++ f.ms.flatMap mx3 ++ (f.ds.take k).flatMap dx3) ++ [x.kind, x.a, x.n] := by
        rw [List.take_add_one, hx]
        simp [dx3]
      generalize [(f.ms.length : Int), (f.ds.length : Int)] ++ f.ms.flatMap mx3 ++ (f.ds.take k).flatMap dx3 = L at *
      repeat' (first | refine X.loc ?_ | refine nx ?_ | refine X.cdT ?_ | refine X.cdF ?_ | (refine WP.condBit rfl ?_ ?_) | (refine WP.cond rfl ?_ ?_ <;> intro hcond) | refine rb ?_ | refine nd ?_ | refine dk ?_ | fail)
      refine ⟨k + 1, by omega, by omega, ?_⟩
      try dsimp only
      rw [hs]
      refine St.to [(900, .id 47)] [] rfl rfl ?_ ?_ <;> (repeat' (first | exact tA | refine t1 ?_ | exact tB | refine t2 ?_ ?_ | refine t3 ?_ | refine t4 ?_ ?_ | refine .ofEq ?_ | refine OB.To.cut rfl rfl ?_ ?_ ?_ ?_ | refine OB.To.box rfl rfl ?_ | refine ⟨⟨_, rfl, ?_⟩, ?_⟩ | refine ⟨?_, ?_⟩ | fail))
      all_goals first | omega | (simp; done) | (simp; omega) | (simp only [List.flatMap_append, List.map_append]; rfl)
    case neg =>
      obtain rfl : k = f.ds.length := by omega
      rw [List.take_length]
      have hn : [(f.ms.length : Int), (f.ds.length : Int)] ++ f.ms.flatMap mx3 ++ f.ds.flatMap dx3 = numsOf f := rfl
      have hlen := numsOf_len f
      rw [hn]
      generalize numsOf f = L at *
      repeat' (first | refine X.loc ?_ | refine nx ?_ | refine X.cdT ?_ | refine X.cdF ?_ | (refine WP.condBit rfl ?_ ?_) | (refine WP.cond rfl ?_ ?_ <;> intro hcond) | refine rb ?_ | refine nd ?_ | refine dk ?_ | fail)
      rw [← hlen]
      refine .ofL (s' := ⟨[(2, .osl 7)], [(7, .row 3 1 L.length ((L.flatMap encI).map .fv))]⟩) (by first | exact .inl rfl | exact .inr rfl) ?_ rfl rfl (by repeat' (first | exact trivial | refine ⟨⟨_, rfl, fun _ _ _ _ h => h⟩, ?_⟩))
      refine St.to [(7, .id 900)] [] rfl rfl ?_ ?_ <;> (repeat' (first | exact tA | refine t1 ?_ | exact tB | refine t2 ?_ ?_ | refine t3 ?_ | refine t4 ?_ ?_ | refine .ofEq ?_ | refine OB.To.cut rfl rfl ?_ ?_ ?_ ?_ | refine OB.To.box rfl rfl ?_ | refine ⟨⟨_, rfl, ?_⟩, ?_⟩ | refine ⟨?_, ?_⟩ | fail))
theorem numbers_T (f : Fl) (hf : f.Fit) : Fun Try.prog 90 [.agg ((encFl f).map .fv)] (.fv (slOf encI (numsOf f))) :=
  (numbersO_T f hf).froz [7] (.frz rfl rfl rfl)
theorem orR_ord (x y : Fl) : orR [cmpI x.table y.table, cmpI y.prio x.prio, cmpL (numsOf x) (numsOf y)] = ordF x y := by
  unfold ordF keyOf
  rw [cmpL, cmpL, cmpI_swap, orR, orR, orR, orR]
  split
  · rfl
  · split
    · rfl
    · split
      · rfl
      · omega
set_option maxHeartbeats 1000000 in
theorem order_T (x y : Fl) (hx : x.Fit) (hy : y.Fit) : Fun Try.prog 55 [.agg ((encFl x).map .fv), .agg ((encFl y).map .fv)] (.fv (.int .i64 (ordF x y))) := by
  have c1 := compare_T x.table y.table
  have c2 := compare_T y.prio x.prio
  have n1 := numbers_T x hx
  have n2 := numbers_T y hy
  have c3 := compareL_T (numsOf x) (numsOf y) (by rw [numsOf_len]; unfold Fl.Fit at hx; omega) (by rw [numsOf_len]; unfold Fl.Fit at hy; omega)
  have c4 := or_T [cmpI x.table y.table, cmpI y.prio x.prio, cmpL (numsOf x) (numsOf y)] (by simp)
  rw [orR_ord] at c4
  generalize ordF x y = o at *
  generalize cmpL (numsOf x) (numsOf y) = o3 at *
  generalize cmpI x.table y.table = o1 at *
  generalize cmpI y.prio x.prio = o2 at *
  refine Fun.body tbl_ok Try.func55 rfl (by kernel_rfl) rfl rfl rfl ?_
  repeat' (first | (apply X.loE; (· exact aR); (· first | exact .eff (.bsliceFS rfl rfl rfl rfl rfl rfl) | exact .callL rfl rfl rfl (by first | exact c1 | exact c2 | exact n1 | exact n2 | exact c3 | exact c4) rfl | exact bl (c1) | exact bl (c2) | exact bl (n1) | exact bl (n2) | exact bl (c3) | exact bl (c4))) | refine X.loc ?_ | refine nx ?_ | refine X.cdT ?_ | refine X.cdF ?_ | (refine WP.condBit rfl ?_ ?_) | (refine WP.cond rfl ?_ ?_ <;> intro hcond) | (apply X.gsE; (· exact aR); (· exact aV); (· exact aW); (· intro hc; first | exact .eff (.bsliceFS rfl rfl rfl rfl rfl rfl) | exact .callG rfl rfl rfl (by first | exact c1 | exact c2 | exact n1 | exact n2 | exact c3 | exact c4) rfl | exact bg (c1) | exact bg (c2) | exact bg (n1) | exact bg (n2) | exact bg (c3) | exact bg (c4)); (· exact aR)) | refine rb ?_ | refine nd ?_ | refine dk ?_ | fail)
  exact .f1 (.inl rfl) rfl rfl
end Go.Proofs.Ytmidechdlbcepaa

namespace Go.Proofs.Ytmidechdlbcepaa
open Go.RowKit
set_option maxRecDepth 100000

theorem addPort1_T (p q : Po) : Fun Try.prog 94 [.agg ((encPo q).map .fv), .fptr (encPo p)] (.fv (.bool (q.id == p.id || (q.sw == p.sw && q.mac == p.mac)))) := by
  refine Fun.body tbl_ok Try.func94 rfl (by kernel_rfl) rfl rfl rfl ?_
  repeat' (first | refine X.loc ?_ | refine nx ?_ | (refine WP.condBit rfl ?_ ?_) | (refine WP.cond rfl ?_ ?_ <;> intro hcond) | refine rb ?_ | refine nd ?_ | refine dk ?_ | fail)
  exact .f1 (.inl rfl) rfl rfl
set_option maxHeartbeats 2000000 in
theorem addSwitch_T (c : Cf) (s : Sw) (hl : c.Small) (hw : c.Wf) (hn : c.ss.length ≤ 12) : Fun Try.prog 58 [.agg ((encCf c).map .fv), .agg ((encSw s).map .fv)] (.fv (.int .i64 (swFault c s))) := by
  have hl1 := hl.1
  have hix := idxB_any (fun x : Sw => x.id == s.id) c.ss
  have hsec : 0 ≤ s.gate → ((decide (idxB (fun x : Sw => x.id == s.id) c.ss ≥ 0) || (s.gate != 0 && takenB c s.tenant s.gate)) = true ↔ (c.ss.any (fun x => x.id == s.id) = true ∨ (0 < s.gate ∧ takenB c s.tenant s.gate = true))) := fun hg => by
    rw [Bool.or_eq_true, decide_eq_true_iff, Bool.and_eq_true, bne_iff_ne]
    refine or_congr ?_ (and_congr (by omega) Iff.rfl)
    rw [← Bool.not_eq_false, ← hix]
    omega
  refine Fun.body tbl_ok Try.func58 rfl (by kernel_rfl) rfl rfl rfl ?_
  repeat' (first | (apply X.loE; (· exact aR); (· first | exact .callL rfl rfl rfl (by first | exact within_T _ _ _ | exact place_T c _ hl1 | exact taken_T c _ _ hl hw) rfl | exact bl (within_T _ _ _) | exact bl (place_T c _ hl1) | exact bl (taken_T c _ _ hl hw))) | refine X.loc ?_ | refine nx ?_ | (refine WP.condBit rfl ?_ ?_) | (refine WP.cond rfl ?_ ?_ <;> intro hcond) | (apply X.gsE; (· exact aR); (· exact aV); (· exact aW); (· intro hc; first | exact .callG rfl rfl rfl (by first | exact within_T _ _ _ | exact place_T c _ hl1 | exact taken_T c _ _ hl hw) rfl | exact bg (within_T _ _ _) | exact bg (place_T c _ hl1) | exact bg (taken_T c _ _ hl hw)); (· exact aR)) | refine rb ?_ | refine nd ?_ | refine dk ?_ | fail)
  · refine .f1 (.inl rfl) rfl ?_
    rw [swFault, if_pos (by simpa [or_assoc] using hcond)]
  · refine .f1 (.inl rfl) rfl ?_
    rename_i h1
    have h1 : ¬ (inR s.id 1 500 = false ∨ inR s.tenant 1 9 = false ∨ inR s.gate 0 65535 = false) := by simpa [and_assoc] using h1
    have hg : 0 ≤ s.gate := (inR_iff.1 (show inR s.gate 0 65535 = true by simp at h1; exact h1.2.2)).1
    rw [swFault, if_neg h1, if_pos ((hsec hg).1 hcond)]
  · refine .f1 (.inl rfl) rfl ?_
    rename_i h1 h2
    have h1 : ¬ (inR s.id 1 500 = false ∨ inR s.tenant 1 9 = false ∨ inR s.gate 0 65535 = false) := by simpa [and_assoc] using h1
    have hg : 0 ≤ s.gate := (inR_iff.1 (show inR s.gate 0 65535 = true by simp at h1; exact h1.2.2)).1
    rw [swFault, if_neg h1, if_neg (fun h => by rw [(hsec hg).2 h] at h2; cases h2), if_pos (by simp at hcond; omega)]
  · refine .f1 (.inl rfl) rfl ?_
    rename_i h1 h2
    have h1 : ¬ (inR s.id 1 500 = false ∨ inR s.tenant 1 9 = false ∨ inR s.gate 0 65535 = false) := by simpa [and_assoc] using h1
    have hg : 0 ≤ s.gate := (inR_iff.1 (show inR s.gate 0 65535 = true by simp at h1; exact h1.2.2)).1
    rw [swFault, if_neg h1, if_neg (fun h => by rw [(hsec hg).2 h] at h2; cases h2), if_neg (by simp at hcond; omega)]
set_option maxHeartbeats 2000000 in
theorem addPort_T (c : Cf) (p : Po) (hl : c.Small) (hw : c.Wf) (hn : c.ps.length ≤ 40) : Fun Try.prog 59 [.agg ((encCf c).map .fv), .agg ((encPo p).map .fv)] (.fv (.int .i64 (poFault c p))) := by
  have hl1 := hl.1
  have hix := idxB_any (fun x : Sw => x.id == p.sw) c.ss
  have hpl := place_T c p.sw hl1
  have hr : ∀ {b : Bool}, (!inR p.id 1 999 || !inR p.mac 1 59999 || !inR p.ip 1 65535 || !inR p.ch (-1) 5) = false → ¬ (inR p.id 1 999 = false ∨ inR p.mac 1 59999 = false ∨ inR p.ip 1 65535 = false ∨ inR p.ch (-1) 5 = false) := fun {_} h => by simpa [and_assoc] using h
  refine Fun.body tbl_ok Try.func59 rfl (by kernel_rfl) rfl rfl rfl ?_
  cases hany : c.ss.any (fun x => x.id == p.sw) with
  | false =>
    have : idxB (fun x : Sw => x.id == p.sw) c.ss = -1 := by
      have := idxB_ge (fun x : Sw => x.id == p.sw) c.ss
      have := hix.2 hany
      omega
    rw [this] at hpl
    repeat' (first | (apply X.loE; (· exact aR); (· first | exact .callL rfl rfl rfl (by first | exact within_T _ _ _ | exact hpl) rfl | exact bl (within_T _ _ _) | exact bl (hpl))) | refine X.loc ?_ | refine nx ?_ | (refine WP.condBit rfl ?_ ?_) | (refine WP.cond rfl ?_ ?_ <;> intro hcond) | (apply X.gsE; (· exact aR); (· exact aV); (· exact aW); (· intro hc; first | exact .callG rfl rfl rfl (by first | exact within_T _ _ _ | exact hpl) rfl | exact bg (within_T _ _ _) | exact bg (hpl)); (· exact aR)) | refine rb ?_ | refine nd ?_ | refine dk ?_ | fail)
    · refine .f1 (.inl rfl) rfl ?_
      rw [poFault, if_pos (by simpa [or_assoc] using hcond)]
    · refine .f1 (.inl rfl) rfl ?_
      rw [poFault, if_neg (hr (b := true) (by assumption)), if_pos hany]
  | true =>
    obtain ⟨k, hk⟩ := idxB_some hany
    obtain ⟨x, hx, ht⟩ := tenantAt_at hk
    rw [hk] at hpl
    have hnf : ¬ (c.ss.any (fun x => x.id == p.sw) = false) := by rw [hany]; simp
    repeat' (first | (apply X.loE; (· exact aR); (· first | (exact .eff (.idxS rfl rfl rfl encSw_len hx)) | exact .callL rfl rfl rfl (by first | exact within_T _ _ _ | exact hpl | exact containsPo_T c.ps _ [.fptr (encPo p)] (fun q => q.id == p.id || (q.sw == p.sw && q.mac == p.mac)) hl.2.1 (fun q _ => addPort1_T p q) | exact taken_T c _ _ hl hw) rfl | exact bl (within_T _ _ _) | exact bl (hpl) | exact bl (containsPo_T c.ps _ [.fptr (encPo p)] (fun q => q.id == p.id || (q.sw == p.sw && q.mac == p.mac)) hl.2.1 (fun q _ => addPort1_T p q)) | exact bl (taken_T c _ _ hl hw))) | refine X.loc ?_ | refine nx ?_ | (refine WP.condBit rfl ?_ ?_) | (refine WP.cond rfl ?_ ?_ <;> intro hcond) | (apply X.gsE; (· exact aR); (· exact aV); (· exact aW); (· intro hc; first | (exact .eff (.idxS rfl rfl rfl encSw_len hx)) | exact .callG rfl rfl rfl (by first | exact within_T _ _ _ | exact hpl | exact containsPo_T c.ps _ [.fptr (encPo p)] (fun q => q.id == p.id || (q.sw == p.sw && q.mac == p.mac)) hl.2.1 (fun q _ => addPort1_T p q) | exact taken_T c _ _ hl hw) rfl | exact bg (within_T _ _ _) | exact bg (hpl) | exact bg (containsPo_T c.ps _ [.fptr (encPo p)] (fun q => q.id == p.id || (q.sw == p.sw && q.mac == p.mac)) hl.2.1 (fun q _ => addPort1_T p q)) | exact bg (taken_T c _ _ hl hw)); (· exact aR)) | refine rb ?_ | refine nd ?_ | refine dk ?_ | fail)
    · refine .f1 (.inl rfl) rfl ?_
      rw [poFault, if_pos (by simpa [or_assoc] using hcond)]
    · refine .f1 (.inl rfl) rfl ?_
      rw [poFault, if_neg (hr (b := true) (by assumption)), if_neg hnf, if_pos hcond]
    · refine .f1 (.inl rfl) rfl ?_
      rename_i h2
      rw [poFault, if_neg (hr (b := true) (by assumption)), if_neg hnf, if_neg (fun h => by rw [h] at h2; cases h2), ht, if_pos hcond]
    · refine .f1 (.inl rfl) rfl ?_
      rename_i h2 h3
      rw [poFault, if_neg (hr (b := true) (by assumption)), if_neg hnf, if_neg (fun h => by rw [h] at h2; cases h2), ht, if_neg (fun h => by rw [h] at h3; cases h3), if_pos (by simp at hcond; omega)]
    · refine .f1 (.inl rfl) rfl ?_
      rename_i h2 h3
      rw [poFault, if_neg (hr (b := true) (by assumption)), if_neg hnf, if_neg (fun h => by rw [h] at h2; cases h2), ht, if_neg (fun h => by rw [h] at h3; cases h3), if_neg (by simp at hcond; omega)]
theorem unitOf_nat (b : Nat) : unitOf (b : Int) = ((2 ^ (16 - b) : Nat) : Int) := by
  unfold unitOf
  rw [Int.toNat_natCast]
  simp
set_option maxHeartbeats 4000000 in
theorem addAcl_T (c : Cf) (a : Ac) (hl : c.Small) (hn : c.acs.length ≤ 40) : Fun Try.prog 60 [.agg ((encCf c).map .fv), .agg ((encAc a).map .fv)] (.fv (.int .i64 (acFault c a))) := by
  have hl1 := hl.1
  have hix := idxB_any (fun x : Sw => x.id == a.sw) c.ss
  have hpl := place_T c a.sw hl1
  refine Fun.body tbl_ok Try.func60 rfl (by kernel_rfl) rfl rfl rfl ?_
  repeat' (first | (apply X.loE; (· exact aR); (· first | exact .callL rfl rfl rfl (within_T _ _ _) rfl | exact bl (within_T _ _ _))) | refine X.loc ?_ | refine nx ?_ | (refine WP.condBit rfl ?_ ?_) | (refine WP.cond rfl ?_ ?_ <;> intro hcond) | (apply X.gsE; (· exact aR); (· exact aV); (· exact aW); (· intro hc; first | exact .callG rfl rfl rfl (within_T _ _ _) rfl | exact bg (within_T _ _ _)); (· exact aR)) | refine rb ?_ | refine dk ?_ | fail)
  · refine .f1 (.inl rfl) rfl ?_
    rw [acFault, if_pos (by simpa [or_assoc] using hcond)]
  have h1 : ¬ (inR a.prio 0 1000 = false ∨ inR a.src 0 65535 = false ∨ inR a.dst 0 65535 = false ∨ inR a.srcBits 0 16 = false ∨ inR a.dstBits 0 16 = false ∨ inR a.port (-1) 65535 = false) := by simpa [and_assoc] using hcond
  have g1 := inR_iff.1 (show inR a.src 0 65535 = true by simp_all)
  have g2 := inR_iff.1 (show inR a.dst 0 65535 = true by simp_all)
  have g3 := inR_iff.1 (show inR a.srcBits 0 16 = true by simp_all)
  have g4 := inR_iff.1 (show inR a.dstBits 0 16 = true by simp_all)
  obtain ⟨sb, hsb⟩ := Int.eq_ofNat_of_zero_le g3.1
  obtain ⟨db, hdb⟩ := Int.eq_ofNat_of_zero_le g4.1
  obtain ⟨sr, hsr⟩ := Int.eq_ofNat_of_zero_le g1.1
  obtain ⟨ds, hds⟩ := Int.eq_ofNat_of_zero_le g2.1
  have m1 := mask_T sb (by omega)
  have m2 := mask_T db (by omega)
  rw [← hsb] at m1
  rw [← hdb] at m2
  have n1 := andNot_mask sr sb (by omega) (by omega)
  have n2 := andNot_mask ds db (by omega) (by omega)
  rw [← hsr] at n1
  rw [← hds] at n2
  have hsec : (bits .andNot .i64 a.src ((65536 - 2 ^ (16 - sb) : Nat) : Int) != 0 || bits .andNot .i64 a.dst ((65536 - 2 ^ (16 - db) : Nat) : Int) != 0) = true ↔ (a.src % unitOf a.srcBits ≠ 0 ∨ a.dst % unitOf a.dstBits ≠ 0) := by
    rw [n1, n2, hsb, hdb, unitOf_nat, unitOf_nat, hsr, hds, Bool.or_eq_true, bne_iff_ne, bne_iff_ne, Int.natCast_emod, Int.natCast_emod]
  clear hcond
  repeat' (first | (apply X.loE; (· exact aR); (· first | exact .callL rfl rfl rfl (by first | exact m1 | exact m2 | exact hpl) rfl | exact bl (m1) | exact bl (m2) | exact bl (hpl))) | refine X.loc ?_ | refine nx ?_ | (refine WP.condBit rfl ?_ ?_) | (refine WP.cond rfl ?_ ?_ <;> intro hcond) | (apply X.gsE; (· exact aR); (· exact aV); (· exact aW); (· intro hc; first | exact .callG rfl rfl rfl (by first | exact m1 | exact m2 | exact hpl) rfl | exact bg (m1) | exact bg (m2) | exact bg (hpl)); (· exact aR)) | refine rb ?_ | refine nd ?_ | refine dk ?_ | fail)
  · refine .f1 (.inl rfl) rfl ?_
    rw [acFault, if_neg h1, if_pos (hsec.1 hcond)]
  · refine .f1 (.inl rfl) rfl ?_
    rename_i h2
    rw [acFault, if_neg h1, if_neg (fun h => by rw [hsec.2 h] at h2; cases h2), if_pos (hix.1 (by simpa using hcond))]
  · refine .f1 (.inl rfl) rfl ?_
    rename_i h2 h3
    have h3 : ¬ (c.ss.any (fun x => x.id == a.sw) = false) := fun h => by simp at h3; have := hix.2 h; omega
    rw [acFault, if_neg h1, if_neg (fun h => by rw [hsec.2 h] at h2; cases h2), if_neg h3, if_pos (by simp at hcond; omega)]
  · refine .f1 (.inl rfl) rfl ?_
    rename_i h2 h3
    have h3 : ¬ (c.ss.any (fun x => x.id == a.sw) = false) := fun h => by simp at h3; have := hix.2 h; omega
    rw [acFault, if_neg h1, if_neg (fun h => by rw [hsec.2 h] at h2; cases h2), if_neg h3, if_neg (by simp at hcond; omega)]
end Go.Proofs.Ytmidechdlbcepaa

namespace Go.Proofs.Ytmidechdlbcepaa
open Go.RowKit
set_option maxRecDepth 100000

theorem take_all {α : Type} {p : α → Prop} {l : List α} {k : Nat} {x : α} (hx : l[k]? = some x) (h : ∀ y ∈ l.take k, p y) (h' : p x) : ∀ y ∈ l.take (k + 1), p y := by
  rw [List.take_add_one, hx]
  intro y hy
  simp at hy
  rcases hy with hy | rfl
  · exact h y hy
  · exact h'
end Go.Proofs.Ytmidechdlbcepaa

namespace Go.Proofs.Ytmidechdlbcepaa
open Go.RowKit
set_option maxRecDepth 100000

end Go.Proofs.Ytmidechdlbcepaa

namespace Go.Proofs.Ytmidechdlbcepaa
open Go.RowKit
set_option maxRecDepth 100000

theorem take_snoc {α : Type} {l : List α} {k : Nat} {x : α} (h : l[k]? = some x) : l.take (k + 1) = l.take k ++ [x] := by
  rw [List.take_add_one, h]
  rfl
theorem drop_at {α : Type} {l : List α} {k : Nat} {x : α} (hx : l[k]? = some x) : l.drop k = x :: l.drop (k + 1) := by
  have hlt := (List.getElem?_eq_some_iff.1 hx).1
  rw [List.drop_eq_getElem_cons hlt, (List.getElem?_eq_some_iff.1 hx).2]
theorem sws_at {l : List Sw} {k : Nat} {x : Sw} {ps : List Po} {acs : List Ac} (hx : l[k]? = some x) : swsMay ⟨l.take k, ps, acs⟩ (l.drop k) = (decide (swFault ⟨l.take k, ps, acs⟩ x = 0) && swsMay ⟨l.take (k + 1), ps, acs⟩ (l.drop (k + 1))) := by
  rw [drop_at hx, swsMay, take_snoc hx]
theorem pos_at {l : List Po} {k : Nat} {x : Po} {ss : List Sw} {acs : List Ac} (hx : l[k]? = some x) : posMay ⟨ss, l.take k, acs⟩ (l.drop k) = (decide (poFault ⟨ss, l.take k, acs⟩ x = 0) && posMay ⟨ss, l.take (k + 1), acs⟩ (l.drop (k + 1))) := by
  rw [drop_at hx, posMay, take_snoc hx]
theorem acs_at {l : List Ac} {k : Nat} {x : Ac} {ss : List Sw} {ps : List Po} (hx : l[k]? = some x) : acsMay ⟨ss, ps, l.take k⟩ (l.drop k) = (decide (acFault ⟨ss, ps, l.take k⟩ x = 0) && acsMay ⟨ss, ps, l.take (k + 1)⟩ (l.drop (k + 1))) := by
  rw [drop_at hx, acsMay, take_snoc hx]
theorem cut_small {c : Cf} (hl : c.Small) (i j k : Nat) : Cf.Small ⟨c.ss.take i, c.ps.take j, c.acs.take k⟩ :=
  ⟨Nat.lt_of_le_of_lt (List.length_take_le' _ _) hl.1, Nat.lt_of_le_of_lt (List.length_take_le' _ _) hl.2.1, Nat.lt_of_le_of_lt (List.length_take_le' _ _) hl.2.2⟩
theorem int_ne {a : Int} (h : (a != 0) = true) : a ≠ 0 := by simpa using h
theorem int_eq {a : Int} (h : (a != 0) = false) : a = 0 := by simpa using h

set_option maxHeartbeats 4000000 in
theorem confCheck_T (c : Cf) (hl : c.Small) : Fun Try.prog 22 [.agg ((encCf c).map .fv)] (.fv (.int .i64 (if cfMay c = true then 0 else 8))) := by
  have hl1 := hl.1
  have hl2 := hl.2.1
  have hl3 := hl.2.2
  refine Fun.body tbl_ok Try.func22 rfl (by kernel_rfl) rfl rfl rfl ?_
  repeat' (first | refine X.loc ?_ | refine nx ?_ | (refine WP.condBit rfl ?_ ?_) | (refine WP.cond rfl ?_ ?_ <;> intro hcond) | refine rb ?_ | refine nd ?_ | refine dk ?_ | fail)
  refine WP.loop (ι := Nat) (fun k => ⟨[(1, .optr 1 0), (3, .optr 3 0), (12, .fv (slOf encSw c.ss)), (13, .fv (.int .i64 c.ss.length)), (14, .fv (.int .i64 k))], [ (1, .box 26 ((encCf c).map .fv)), (3, .box 26 [.osl 900, .nil, .nil]), (900, .row 63 3 (c.ss.take k).length (((c.ss.take k).flatMap encSw).map .fv))]⟩)
    (fun k => k ≤ c.ss.length ∧ k ≤ 12 ∧ swsMay ⟨[], [], []⟩ c.ss = swsMay ⟨c.ss.take k, [], []⟩ (c.ss.drop k)) (fun k => c.ss.length - k) 0 ⟨by omega, by omega, rfl⟩ ?_ ?_
  · skip
    refine St.to [(900, .nil)] [] rfl rfl ?_ ?_ <;> (repeat' (first | exact tA | refine t1 ?_ | exact tB | refine t2 ?_ ?_ | refine t3 ?_ | refine t4 ?_ ?_ | refine .ofEq ?_ | refine OB.To.cut rfl rfl ?_ ?_ ?_ ?_ | refine OB.To.box rfl rfl ?_ | refine ⟨⟨_, rfl, ?_⟩, ?_⟩ | refine ⟨?_, ?_⟩ | fail))
  rintro k ⟨hk, hk12, hd⟩
  try dsimp only
  have hlen : (c.ss.take k).length ≤ 12 := by simp; omega
  by_cases hlt : k < c.ss.length
  case pos =>
    obtain ⟨x, hx⟩ : ∃ x, c.ss[k]? = some x := ⟨_, List.getElem?_eq_getElem hlt⟩
    have hat := sws_at (ps := []) (acs := []) hx
    have hsm : Cf.Small ⟨c.ss.take k, [], []⟩ := by have := cut_small hl k 0 0; simpa using this
    repeat' (first | (apply X.loE; (· exact aR); (· first | (exact .eff (.idxS rfl rfl rfl encSw_len hx)) | exact .callL rfl rfl rfl (addSwitch_T ⟨c.ss.take k, [], []⟩ x hsm (by intro p hp; simp at hp) hlen) rfl | exact bl (addSwitch_T ⟨c.ss.take k, [], []⟩ x hsm (by intro p hp; simp at hp) hlen))) | refine X.loc ?_ | refine nx ?_ | (refine WP.condBit rfl ?_ ?_) | (refine WP.cond rfl ?_ ?_ <;> intro hcond) | (apply X.gsE; (· exact aR); (· exact aV); (· exact aW); (· intro hc; first | (exact .eff (.idxS rfl rfl rfl encSw_len hx)) | exact .callG rfl rfl rfl (addSwitch_T ⟨c.ss.take k, [], []⟩ x hsm (by intro p hp; simp at hp) hlen) rfl | exact bg (addSwitch_T ⟨c.ss.take k, [], []⟩ x hsm (by intro p hp; simp at hp) hlen)); (· exact aR)) | refine rb ?_ | refine nd ?_ | refine dk ?_ | fail)
    · refine .f1 (.inl rfl) rfl ?_
      have : cfMay c = false := by
        unfold cfMay
        rw [hd, hat, decide_eq_false (int_ne hcond)]
        rfl
      rw [this]
      rfl
    · have h0 := int_eq hcond
      have := swFault_lt h0
      refine ⟨k + 1, ⟨by omega, by simp at this; omega, ?_⟩, by omega, ?_⟩
      · rw [hd, hat, decide_eq_true h0]
        rfl
      · skip
        refine St.to [(900, .id 26)] [] rfl rfl ?_ ?_ <;> (repeat' (first | exact tA | refine t1 ?_ | exact tB | refine t2 ?_ ?_ | refine t3 ?_ | refine t4 ?_ ?_ | refine .ofEq ?_ | refine OB.To.cut rfl rfl ?_ ?_ ?_ ?_ | refine OB.To.box rfl rfl ?_ | refine ⟨⟨_, rfl, ?_⟩, ?_⟩ | refine ⟨?_, ?_⟩ | fail))
        all_goals first | exact (take_len hx).symm | (rw [take_flat hx, List.map_append]; rfl)
    · exfalso
      simp at hcond
      omega
  case neg =>
    have hek : k = c.ss.length := by omega
    subst hek
    rw [List.drop_of_length_le (Nat.le_refl _)] at hd
    have hsw : swsMay ⟨[], [], []⟩ c.ss = true := hd
    repeat' (first | refine X.loc ?_ | refine nx ?_ | (refine WP.condBit rfl ?_ ?_) | (refine WP.cond rfl ?_ ?_ <;> intro hcond) | refine rb ?_ | refine nd ?_ | refine dk ?_ | fail)
    · exfalso
      simp at hcond
    refine WP.loop (ι := Nat) (fun k => ⟨[(1, .optr 1 0), (3, .optr 3 0), (30, .fv (slOf encPo c.ps)), (31, .fv (.int .i64 c.ps.length)), (32, .fv (.int .i64 k))], [ (1, .box 26 ((encCf c).map .fv)), (3, .box 26 [.osl 900, .osl 901, .nil]), (900, .row 63 3 c.ss.length ((c.ss.flatMap encSw).map .fv)), (901, .row 66 5 (c.ps.take k).length (((c.ps.take k).flatMap encPo).map .fv))]⟩)
      (fun k => k ≤ c.ps.length ∧ k ≤ 40 ∧ Cf.Wf ⟨c.ss, c.ps.take k, []⟩ ∧ posMay ⟨c.ss, [], []⟩ c.ps = posMay ⟨c.ss, c.ps.take k, []⟩ (c.ps.drop k)) (fun k => c.ps.length - k) 0 ⟨by omega, by omega, (by intro p hp; simp at hp), rfl⟩ ?_ ?_
    · skip
      refine St.to [(901, .nil)] [] rfl rfl ?_ ?_ <;> (repeat' (first | exact tA | refine t1 ?_ | exact tB | refine t2 ?_ ?_ | refine t3 ?_ | refine t4 ?_ ?_ | refine .ofEq ?_ | refine OB.To.cut rfl rfl ?_ ?_ ?_ ?_ | refine OB.To.box rfl rfl ?_ | refine ⟨⟨_, rfl, ?_⟩, ?_⟩ | refine ⟨?_, ?_⟩ | fail))
      all_goals rw [List.take_of_length_le (Nat.le_refl _)]
    rintro k ⟨hk, hk40, hwf, hd⟩
    try dsimp only
    have hlen : (c.ps.take k).length ≤ 40 := by simp; omega
    by_cases hlt : k < c.ps.length
    case pos =>
      obtain ⟨x, hx⟩ : ∃ x, c.ps[k]? = some x := ⟨_, List.getElem?_eq_getElem hlt⟩
      have hat := pos_at (ss := c.ss) (acs := []) hx
      have hsm : Cf.Small ⟨c.ss, c.ps.take k, []⟩ := by have := cut_small hl c.ss.length k 0; simpa using this
      repeat' (first | (apply X.loE; (· exact aR); (· first | (exact .eff (.idxS rfl rfl rfl encPo_len hx)) | exact .callL rfl rfl rfl (addPort_T ⟨c.ss, c.ps.take k, []⟩ x hsm hwf hlen) rfl | exact bl (addPort_T ⟨c.ss, c.ps.take k, []⟩ x hsm hwf hlen))) | refine X.loc ?_ | refine nx ?_ | (refine WP.condBit rfl ?_ ?_) | (refine WP.cond rfl ?_ ?_ <;> intro hcond) | (apply X.gsE; (· exact aR); (· exact aV); (· exact aW); (· intro hc; first | (exact .eff (.idxS rfl rfl rfl encPo_len hx)) | exact .callG rfl rfl rfl (addPort_T ⟨c.ss, c.ps.take k, []⟩ x hsm hwf hlen) rfl | exact bg (addPort_T ⟨c.ss, c.ps.take k, []⟩ x hsm hwf hlen)); (· exact aR)) | refine rb ?_ | refine nd ?_ | refine dk ?_ | fail)
      · refine .f1 (.inl rfl) rfl ?_
        have : cfMay c = false := by
          unfold cfMay
          rw [hd, hat, decide_eq_false (int_ne hcond), hsw]
          rfl
        rw [this]
        rfl
      · have h0 := int_eq hcond
        have := poFault_lt h0
        refine ⟨k + 1, ⟨by omega, by have := this.1; simp at this; omega, ?_, ?_⟩, by omega, ?_⟩
        · exact take_all (p := fun p : Po => c.ss.any (fun x => x.id == p.sw) = true) hx hwf this.2
        · rw [hd, hat, decide_eq_true h0]
          rfl
        · skip
          refine St.to [(901, .id 44)] [] rfl rfl ?_ ?_ <;> (repeat' (first | exact tA | refine t1 ?_ | exact tB | refine t2 ?_ ?_ | refine t3 ?_ | refine t4 ?_ ?_ | refine .ofEq ?_ | refine OB.To.cut rfl rfl ?_ ?_ ?_ ?_ | refine OB.To.box rfl rfl ?_ | refine ⟨⟨_, rfl, ?_⟩, ?_⟩ | refine ⟨?_, ?_⟩ | fail))
          all_goals first | exact (take_len hx).symm | (rw [take_flat hx, List.map_append]; rfl)
      · exfalso
        simp at hcond
        omega
    case neg =>
      have hek : k = c.ps.length := by omega
      subst hek
      rw [List.drop_of_length_le (Nat.le_refl _)] at hd
      have hpo : posMay ⟨c.ss, [], []⟩ c.ps = true := hd
      repeat' (first | refine X.loc ?_ | refine nx ?_ | (refine WP.condBit rfl ?_ ?_) | (refine WP.cond rfl ?_ ?_ <;> intro hcond) | refine rb ?_ | refine nd ?_ | refine dk ?_ | fail)
      · exfalso
        simp at hcond
      refine WP.loop (ι := Nat) (fun k => ⟨[(1, .optr 1 0), (3, .optr 3 0), (48, .fv (slOf encAc c.acs)), (49, .fv (.int .i64 c.acs.length)), (50, .fv (.int .i64 k))], [ (1, .box 26 ((encCf c).map .fv)), (3, .box 26 [.osl 900, .osl 901, .osl 902]), (900, .row 63 3 c.ss.length ((c.ss.flatMap encSw).map .fv)), (901, .row 66 5 c.ps.length ((c.ps.flatMap encPo).map .fv)), (902, .row 69 9 (c.acs.take k).length (((c.acs.take k).flatMap encAc).map .fv))]⟩)
        (fun k => k ≤ c.acs.length ∧ k ≤ 40 ∧ acsMay ⟨c.ss, c.ps, []⟩ c.acs = acsMay ⟨c.ss, c.ps, c.acs.take k⟩ (c.acs.drop k)) (fun k => c.acs.length - k) 0 ⟨by omega, by omega, rfl⟩ ?_ ?_
      · skip
        refine St.to [(902, .nil)] [] rfl rfl ?_ ?_ <;> (repeat' (first | exact tA | refine t1 ?_ | exact tB | refine t2 ?_ ?_ | refine t3 ?_ | refine t4 ?_ ?_ | refine .ofEq ?_ | refine OB.To.cut rfl rfl ?_ ?_ ?_ ?_ | refine OB.To.box rfl rfl ?_ | refine ⟨⟨_, rfl, ?_⟩, ?_⟩ | refine ⟨?_, ?_⟩ | fail))
        all_goals rw [List.take_of_length_le (Nat.le_refl _)]
      rintro k ⟨hk, hk40, hd⟩
      try dsimp only
      have hlen : (c.acs.take k).length ≤ 40 := by simp; omega
      by_cases hlt : k < c.acs.length
      case pos =>
        obtain ⟨x, hx⟩ : ∃ x, c.acs[k]? = some x := ⟨_, List.getElem?_eq_getElem hlt⟩
        have hat := acs_at (ss := c.ss) (ps := c.ps) hx
        have hsm : Cf.Small ⟨c.ss, c.ps, c.acs.take k⟩ := by have := cut_small hl c.ss.length c.ps.length k; simpa using this
        repeat' (first | (apply X.loE; (· exact aR); (· first | (exact .eff (.idxS rfl rfl rfl encAc_len hx)) | exact .callL rfl rfl rfl (addAcl_T ⟨c.ss, c.ps, c.acs.take k⟩ x hsm hlen) rfl | exact bl (addAcl_T ⟨c.ss, c.ps, c.acs.take k⟩ x hsm hlen))) | refine X.loc ?_ | refine nx ?_ | (refine WP.condBit rfl ?_ ?_) | (refine WP.cond rfl ?_ ?_ <;> intro hcond) | (apply X.gsE; (· exact aR); (· exact aV); (· exact aW); (· intro hc; first | (exact .eff (.idxS rfl rfl rfl encAc_len hx)) | exact .callG rfl rfl rfl (addAcl_T ⟨c.ss, c.ps, c.acs.take k⟩ x hsm hlen) rfl | exact bg (addAcl_T ⟨c.ss, c.ps, c.acs.take k⟩ x hsm hlen)); (· exact aR)) | refine rb ?_ | refine nd ?_ | refine dk ?_ | fail)
        · refine .f1 (.inl rfl) rfl ?_
          have : cfMay c = false := by
            unfold cfMay
            rw [hd, hat, decide_eq_false (int_ne hcond), hsw, hpo]
            rfl
          rw [this]
          rfl
        · have h0 := int_eq hcond
          have := acFault_lt h0
          refine ⟨k + 1, ⟨by omega, by simp at this; omega, ?_⟩, by omega, ?_⟩
          · rw [hd, hat, decide_eq_true h0]
            rfl
          · skip
            refine St.to [(902, .id 62)] [] rfl rfl ?_ ?_ <;> (repeat' (first | exact tA | refine t1 ?_ | exact tB | refine t2 ?_ ?_ | refine t3 ?_ | refine t4 ?_ ?_ | refine .ofEq ?_ | refine OB.To.cut rfl rfl ?_ ?_ ?_ ?_ | refine OB.To.box rfl rfl ?_ | refine ⟨⟨_, rfl, ?_⟩, ?_⟩ | refine ⟨?_, ?_⟩ | fail))
            all_goals first | exact (take_len hx).symm | (rw [take_flat hx, List.map_append]; rfl)
        · exfalso
          simp at hcond
          omega
      case neg =>
        have hek : k = c.acs.length := by omega
        subst hek
        rw [List.drop_of_length_le (Nat.le_refl _)] at hd
        have hac : acsMay ⟨c.ss, c.ps, []⟩ c.acs = true := hd
        have hall : cfMay c = true := by
          unfold cfMay
          rw [hsw, hpo, hac]
          rfl
        repeat' (first | refine X.loc ?_ | refine nx ?_ | (refine WP.condBit rfl ?_ ?_) | (refine WP.cond rfl ?_ ?_ <;> intro hcond) | refine rb ?_ | refine nd ?_ | refine dk ?_ | fail)
        · exfalso
          simp at hcond
        · refine .f1 (.inl rfl) rfl ?_
          rw [hall]
          rfl
end Go.Proofs.Ytmidechdlbcepaa

namespace Go.Proofs.Ytmidechdlbcepaa
open Go.RowKit
set_option maxRecDepth 100000

end Go.Proofs.Ytmidechdlbcepaa

namespace Go.Proofs.Ytmidechdlbcepaa
open Go.RowKit
set_option maxRecDepth 100000

theorem cloneSw_T (l : List Sw) (hl : l.length * 24 ≤ 140737488355328) : FunO Try.prog 101 [.fv (slOf encSw l)] [] (.osl 7) [(7, .row 63 3 l.length ((l.flatMap encSw).map .fv))] := by
  refine FunO.bodyL tbl_ok Try.func101 rfl (by kernel_rfl) rfl rfl rfl ?_
  rcases Nat.eq_zero_or_pos l.length with h0 | h0
  · obtain rfl := List.eq_nil_of_length_eq_zero h0
    repeat' (first | refine X.loc ?_ | refine nx ?_ | (refine WP.condBit rfl ?_ ?_) | (refine WP.cond rfl ?_ ?_ <;> intro hcond) | refine rb ?_ | refine nd ?_ | refine dk ?_ | fail)
    · skip
      refine .ofL (s' := ⟨[(2, .osl 7)], [(7, .row 63 3 0 [])]⟩) (by first | exact .inl rfl | exact .inr rfl) ?_ rfl rfl (by repeat' (first | exact trivial | refine ⟨⟨_, rfl, fun _ _ _ _ h => h⟩, ?_⟩))
      refine St.to [(7, .nil)] [] rfl rfl ?_ ?_ <;> (repeat' (first | exact tA | refine t1 ?_ | exact tB | refine t2 ?_ ?_ | refine t3 ?_ | refine t4 ?_ ?_ | refine .ofEq ?_ | refine OB.To.cut rfl rfl ?_ ?_ ?_ ?_ | refine OB.To.box rfl rfl ?_ | refine ⟨⟨_, rfl, ?_⟩, ?_⟩ | refine ⟨?_, ?_⟩ | fail))
    · skip
      refine .ofL (s' := ⟨[(2, .osl 7)], [(7, .row 63 3 0 [])]⟩) (by first | exact .inl rfl | exact .inr rfl) ?_ rfl rfl (by repeat' (first | exact trivial | refine ⟨⟨_, rfl, fun _ _ _ _ h => h⟩, ?_⟩))
      refine St.to [(7, .id 7)] [] rfl rfl ?_ ?_ <;> (repeat' (first | exact tA | refine t1 ?_ | exact tB | refine t2 ?_ ?_ | refine t3 ?_ | refine t4 ?_ ?_ | refine .ofEq ?_ | refine OB.To.cut rfl rfl ?_ ?_ ?_ ?_ | refine OB.To.box rfl rfl ?_ | refine ⟨⟨_, rfl, ?_⟩, ?_⟩ | refine ⟨?_, ?_⟩ | fail))
      rfl
  · skip
    repeat' (first | refine X.loc ?_ | refine nx ?_ | (refine WP.condBit rfl ?_ ?_) | (refine WP.cond rfl ?_ ?_ <;> intro hcond) | refine rb ?_ | refine nd ?_ | refine dk ?_ | fail)
    refine .ofL (s' := ⟨[(2, .osl 7)], [(7, .row 63 3 l.length ((l.flatMap encSw).map .fv))]⟩) (by first | exact .inl rfl | exact .inr rfl) ?_ rfl rfl (by repeat' (first | exact trivial | refine ⟨⟨_, rfl, fun _ _ _ _ h => h⟩, ?_⟩))
    refine St.to [(7, .id 7)] [] rfl rfl ?_ ?_ <;> (repeat' (first | exact tA | refine t1 ?_ | exact tB | refine t2 ?_ ?_ | refine t3 ?_ | refine t4 ?_ ?_ | refine .ofEq ?_ | refine OB.To.cut rfl rfl ?_ ?_ ?_ ?_ | refine OB.To.box rfl rfl ?_ | refine ⟨⟨_, rfl, ?_⟩, ?_⟩ | refine ⟨?_, ?_⟩ | fail))
    all_goals first | omega | simp
theorem clonePo_T (l : List Po) (hl : l.length * 40 ≤ 140737488355328) : FunO Try.prog 97 [.fv (slOf encPo l)] [] (.osl 7) [(7, .row 66 5 l.length ((l.flatMap encPo).map .fv))] := by
  refine FunO.bodyL tbl_ok Try.func97 rfl (by kernel_rfl) rfl rfl rfl ?_
  rcases Nat.eq_zero_or_pos l.length with h0 | h0
  · obtain rfl := List.eq_nil_of_length_eq_zero h0
    repeat' (first | refine X.loc ?_ | refine nx ?_ | (refine WP.condBit rfl ?_ ?_) | (refine WP.cond rfl ?_ ?_ <;> intro hcond) | refine rb ?_ | refine nd ?_ | refine dk ?_ | fail)
    · skip
      refine .ofL (s' := ⟨[(2, .osl 7)], [(7, .row 66 5 0 [])]⟩) (by first | exact .inl rfl | exact .inr rfl) ?_ rfl rfl (by repeat' (first | exact trivial | refine ⟨⟨_, rfl, fun _ _ _ _ h => h⟩, ?_⟩))
      refine St.to [(7, .nil)] [] rfl rfl ?_ ?_ <;> (repeat' (first | exact tA | refine t1 ?_ | exact tB | refine t2 ?_ ?_ | refine t3 ?_ | refine t4 ?_ ?_ | refine .ofEq ?_ | refine OB.To.cut rfl rfl ?_ ?_ ?_ ?_ | refine OB.To.box rfl rfl ?_ | refine ⟨⟨_, rfl, ?_⟩, ?_⟩ | refine ⟨?_, ?_⟩ | fail))
    · skip
      refine .ofL (s' := ⟨[(2, .osl 7)], [(7, .row 66 5 0 [])]⟩) (by first | exact .inl rfl | exact .inr rfl) ?_ rfl rfl (by repeat' (first | exact trivial | refine ⟨⟨_, rfl, fun _ _ _ _ h => h⟩, ?_⟩))
      refine St.to [(7, .id 7)] [] rfl rfl ?_ ?_ <;> (repeat' (first | exact tA | refine t1 ?_ | exact tB | refine t2 ?_ ?_ | refine t3 ?_ | refine t4 ?_ ?_ | refine .ofEq ?_ | refine OB.To.cut rfl rfl ?_ ?_ ?_ ?_ | refine OB.To.box rfl rfl ?_ | refine ⟨⟨_, rfl, ?_⟩, ?_⟩ | refine ⟨?_, ?_⟩ | fail))
      rfl
  · skip
    repeat' (first | refine X.loc ?_ | refine nx ?_ | (refine WP.condBit rfl ?_ ?_) | (refine WP.cond rfl ?_ ?_ <;> intro hcond) | refine rb ?_ | refine nd ?_ | refine dk ?_ | fail)
    refine .ofL (s' := ⟨[(2, .osl 7)], [(7, .row 66 5 l.length ((l.flatMap encPo).map .fv))]⟩) (by first | exact .inl rfl | exact .inr rfl) ?_ rfl rfl (by repeat' (first | exact trivial | refine ⟨⟨_, rfl, fun _ _ _ _ h => h⟩, ?_⟩))
    refine St.to [(7, .id 7)] [] rfl rfl ?_ ?_ <;> (repeat' (first | exact tA | refine t1 ?_ | exact tB | refine t2 ?_ ?_ | refine t3 ?_ | refine t4 ?_ ?_ | refine .ofEq ?_ | refine OB.To.cut rfl rfl ?_ ?_ ?_ ?_ | refine OB.To.box rfl rfl ?_ | refine ⟨⟨_, rfl, ?_⟩, ?_⟩ | refine ⟨?_, ?_⟩ | fail))
    all_goals first | omega | simp
theorem cloneAc_T (l : List Ac) (hl : l.length * 72 ≤ 140737488355328) : FunO Try.prog 102 [.fv (slOf encAc l)] [] (.osl 7) [(7, .row 69 9 l.length ((l.flatMap encAc).map .fv))] := by
  refine FunO.bodyL tbl_ok Try.func102 rfl (by kernel_rfl) rfl rfl rfl ?_
  rcases Nat.eq_zero_or_pos l.length with h0 | h0
  · obtain rfl := List.eq_nil_of_length_eq_zero h0
    repeat' (first | refine X.loc ?_ | refine nx ?_ | (refine WP.condBit rfl ?_ ?_) | (refine WP.cond rfl ?_ ?_ <;> intro hcond) | refine rb ?_ | refine nd ?_ | refine dk ?_ | fail)
    · skip
      refine .ofL (s' := ⟨[(2, .osl 7)], [(7, .row 69 9 0 [])]⟩) (by first | exact .inl rfl | exact .inr rfl) ?_ rfl rfl (by repeat' (first | exact trivial | refine ⟨⟨_, rfl, fun _ _ _ _ h => h⟩, ?_⟩))
      refine St.to [(7, .nil)] [] rfl rfl ?_ ?_ <;> (repeat' (first | exact tA | refine t1 ?_ | exact tB | refine t2 ?_ ?_ | refine t3 ?_ | refine t4 ?_ ?_ | refine .ofEq ?_ | refine OB.To.cut rfl rfl ?_ ?_ ?_ ?_ | refine OB.To.box rfl rfl ?_ | refine ⟨⟨_, rfl, ?_⟩, ?_⟩ | refine ⟨?_, ?_⟩ | fail))
    · skip
      refine .ofL (s' := ⟨[(2, .osl 7)], [(7, .row 69 9 0 [])]⟩) (by first | exact .inl rfl | exact .inr rfl) ?_ rfl rfl (by repeat' (first | exact trivial | refine ⟨⟨_, rfl, fun _ _ _ _ h => h⟩, ?_⟩))
      refine St.to [(7, .id 7)] [] rfl rfl ?_ ?_ <;> (repeat' (first | exact tA | refine t1 ?_ | exact tB | refine t2 ?_ ?_ | refine t3 ?_ | refine t4 ?_ ?_ | refine .ofEq ?_ | refine OB.To.cut rfl rfl ?_ ?_ ?_ ?_ | refine OB.To.box rfl rfl ?_ | refine ⟨⟨_, rfl, ?_⟩, ?_⟩ | refine ⟨?_, ?_⟩ | fail))
      rfl
  · skip
    repeat' (first | refine X.loc ?_ | refine nx ?_ | (refine WP.condBit rfl ?_ ?_) | (refine WP.cond rfl ?_ ?_ <;> intro hcond) | refine rb ?_ | refine nd ?_ | refine dk ?_ | fail)
    refine .ofL (s' := ⟨[(2, .osl 7)], [(7, .row 69 9 l.length ((l.flatMap encAc).map .fv))]⟩) (by first | exact .inl rfl | exact .inr rfl) ?_ rfl rfl (by repeat' (first | exact trivial | refine ⟨⟨_, rfl, fun _ _ _ _ h => h⟩, ?_⟩))
    refine St.to [(7, .id 7)] [] rfl rfl ?_ ?_ <;> (repeat' (first | exact tA | refine t1 ?_ | exact tB | refine t2 ?_ ?_ | refine t3 ?_ | refine t4 ?_ ?_ | refine .ofEq ?_ | refine OB.To.cut rfl rfl ?_ ?_ ?_ ?_ | refine OB.To.box rfl rfl ?_ | refine ⟨⟨_, rfl, ?_⟩, ?_⟩ | refine ⟨?_, ?_⟩ | fail))
    all_goals first | omega | simp
def Cf.Fit (c : Cf) : Prop := c.ss.length * 24 ≤ 140737488355328 ∧ c.ps.length * 40 ≤ 140737488355328 ∧ c.acs.length * 72 ≤ 140737488355328
theorem Cf.Fit.small {c : Cf} (h : c.Fit) : c.Small := by
  obtain ⟨h1, h2, h3⟩ := h
  exact ⟨by omega, by omega, by omega⟩
theorem copy_T (c : Cf) (hl : c.Fit) : FunO Try.prog 79 [.agg ((encCf c).map .fv)] [] (.agg [.osl 7, .osl 8, .osl 9]) [(7, .row 63 3 c.ss.length ((c.ss.flatMap encSw).map .fv)), (8, .row 66 5 c.ps.length ((c.ps.flatMap encPo).map .fv)), (9, .row 69 9 c.acs.length ((c.acs.flatMap encAc).map .fv))] := by
  have hl1 := hl.1
  have hl2 := hl.2.1
  have hl3 := hl.2.2
  refine FunO.bodyL tbl_ok Try.func79 rfl (by kernel_rfl) rfl rfl rfl ?_
  repeat' (first | refine X.loc ?_ | refine nx ?_ | (refine WP.condBit rfl ?_ ?_) | (refine WP.cond rfl ?_ ?_ <;> intro hcond) | refine rb ?_ | refine X.c0 (cloneSw_T c.ss (by omega)) ?_ | refine X.c0 (clonePo_T c.ps (by omega)) ?_ | refine X.c0 (cloneAc_T c.acs (by omega)) ?_ | refine nd ?_ | refine dk ?_ | fail)
  refine .ofL (s' := ⟨[(2, .optr 2 0)], [(2, .box 26 [.osl 7, .osl 8, .osl 9]), (7, .row 63 3 c.ss.length ((c.ss.flatMap encSw).map .fv)), (8, .row 66 5 c.ps.length ((c.ps.flatMap encPo).map .fv)), (9, .row 69 9 c.acs.length ((c.acs.flatMap encAc).map .fv))]⟩) (by first | exact .inl rfl | exact .inr rfl) ?_ rfl rfl (by repeat' (first | exact trivial | refine ⟨⟨_, rfl, fun _ _ _ _ h => h⟩, ?_⟩))
  refine St.to [(7, .id 5), (8, .id 8), (9, .id 11)] [] rfl rfl ?_ ?_ <;> (repeat' (first | exact tA | refine t1 ?_ | exact tB | refine t2 ?_ ?_ | refine t3 ?_ | refine t4 ?_ ?_ | refine .ofEq ?_ | refine OB.To.cut rfl rfl ?_ ?_ ?_ ?_ | refine OB.To.box rfl rfl ?_ | refine ⟨⟨_, rfl, ?_⟩, ?_⟩ | refine ⟨?_, ?_⟩ | fail))

theorem del_cells {α : Type} {enc : α → List FV} {s : Nat} (hs : ∀ x, (enc x).length = s) (l : List α) (i : Nat) (hi : i < l.length) :
    ∃ cs1 : List AV, setC ((l.flatMap enc).map AV.fv) ((0 + i) * s) ((((l.flatMap enc).map AV.fv).drop ((i + 1) * s)).take ((l.length - (i + 1)) * s)) = some cs1 ∧ cs1.length = l.length * s ∧ cs1.take ((i + (l.length - (i + 1))) * s) = (((l.eraseIdx i).flatMap enc).map AV.fv) := by
  have hlen : ((l.flatMap enc).map AV.fv).length = l.length * s := by rw [List.length_map, flatMap_len hs]
  have e1 : (l.flatMap enc).drop ((i + 1) * s) = (l.drop (i + 1)).flatMap enc := by
    have h1 : (l.take (i + 1) ++ l.drop (i + 1)).flatMap enc = l.flatMap enc := by rw [List.take_append_drop]
    rw [← h1, List.flatMap_append, List.drop_append_of_le_length (by rw [flatMap_len hs, List.length_take]; rw [Nat.min_eq_left (by omega)]; exact Nat.le_refl _), List.drop_of_length_le (by rw [flatMap_len hs, List.length_take, Nat.min_eq_left (by omega)]; exact Nat.le_refl _), List.nil_append]
  have e2 : (l.flatMap enc).take (i * s) = (l.take i).flatMap enc := by
    have h1 : (l.take i ++ l.drop i).flatMap enc = l.flatMap enc := by rw [List.take_append_drop]
    have h2 : ((l.take i).flatMap enc).length = i * s := by rw [flatMap_len hs, List.length_take, Nat.min_eq_left (by omega)]
    rw [← h1, List.flatMap_append, ← h2, List.take_left']
    rfl
  have e3 : ((l.drop (i + 1)).flatMap enc).length = (l.length - (i + 1)) * s := by rw [flatMap_len hs, List.length_drop]
  have e4 : (((l.flatMap enc).map AV.fv).drop ((i + 1) * s)).take ((l.length - (i + 1)) * s) = ((l.drop (i + 1)).flatMap enc).map AV.fv := by
    rw [← List.map_drop, e1, List.take_of_length_le (by rw [List.length_map, e3]; exact Nat.le_refl _)]
  have hm : (i + (l.length - (i + 1))) * s = i * s + (l.length - (i + 1)) * s := Nat.add_mul _ _ _
  have hle : (i + (l.length - (i + 1))) * s ≤ l.length * s := Nat.mul_le_mul_right s (by omega)
  rw [e4, Nat.zero_add]
  have h6 := setC_mk (cs := (l.flatMap enc).map AV.fv) (off := i * s) (us := ((l.drop (i + 1)).flatMap enc).map AV.fv) (by rw [List.length_map, e3, hlen]; omega)
  refine ⟨_, h6, ?_, ?_⟩
  · rw [List.length_append, List.length_append, List.length_take, List.length_drop, hlen, List.length_map, e3]
    omega
  · rw [← List.map_take, e2, hm, List.take_append_of_le_length (by rw [List.length_append, List.length_map, List.length_map, e3, flatMap_len hs, List.length_take, Nat.min_eq_left (by omega)]; exact Nat.le_refl _), List.take_of_length_le (by rw [List.length_append, List.length_map, List.length_map, e3, flatMap_len hs, List.length_take, Nat.min_eq_left (by omega)]; exact Nat.le_refl _), ← List.map_append, ← List.flatMap_append, List.eraseIdx_eq_take_drop_succ]
theorem clr_cells {cs1 us cs2 : List AV} {n : Nat} (h : setC cs1 n us = some cs2) : cs2.take n = cs1.take n := by
  obtain ⟨h1, rfl⟩ := setC_eq h
  rw [List.append_assoc, List.take_append_of_le_length (by rw [List.length_take]; omega), List.take_take, Nat.min_self]

def zi : AV := .fv (.int .i64 0)
def zb : AV := .fv (.bool false)
theorem deletePo_T (l : List Po) (i : Nat) (j : Int) (hj : j = ((i + 1 : Nat) : Int)) (hi : i < l.length) (hl : l.length * 40 ≤ 140737488355328) : FunO Try.prog 81 [.osl 1000, .fv (.int .i64 (i : Int)), .fv (.int .i64 j)] [(1000, .row 66 5 l.length ((l.flatMap encPo).map .fv))] (.osl 7) [(7, .row 66 5 (l.length - 1) (((l.eraseIdx i).flatMap encPo).map .fv))] := by
  subst hj
  obtain ⟨cs1, h1, h2, h3⟩ := del_cells encPo_len l i hi
  have hclr : ∀ zs : List AV, zs.length = 5 → ∃ cs2, setC cs1 ((0 + (i + (l.length - (i + 1)))) * 5) ((List.replicate (l.length - (i + (l.length - (i + 1)))) zs).flatten) = some cs2 ∧ cs2.take ((i + (l.length - (i + 1))) * 5) = (((l.eraseIdx i).flatMap encPo).map AV.fv) := fun zs hz => by
    have h6 := setC_mk (cs := cs1) (off := (0 + (i + (l.length - (i + 1)))) * 5) (us := (List.replicate (l.length - (i + (l.length - (i + 1)))) zs).flatten) (by
      rw [h2, List.length_flatten, List.map_replicate, List.sum_replicate_nat, hz]
      omega)
    refine ⟨_, h6, ?_⟩
    have := clr_cells h6
    rw [Nat.zero_add] at this
    rw [← h3, ← this, Nat.zero_add]
  obtain ⟨cs2, h4, h5⟩ := hclr [zi, zi, zi, zi, zi] rfl
  generalize hcs : (l.flatMap encPo).map AV.fv = cs at h1
  have hones : onesB cs = true := by subst hcs; exact onesB_map _
  refine FunO.bodyL tbl_ok Try.func81 rfl (by kernel_rfl) rfl rfl rfl ?_
  repeat' (first | refine X.loc ?_ | (refine X.sl3 ?_) | (apply X.appB; (· exact aR); (· exact hones); (· omega); (· exact h1); (· exact aE)) | (apply X.clr; (· exact aR); (· exact h4); (· exact aE)) | refine nx ?_ | refine X.cdT ?_ | refine X.cdF ?_ | (refine WP.condBit rfl ?_ ?_) | (refine WP.cond rfl ?_ ?_ <;> intro hcond) | refine rb ?_ | refine nd ?_ | refine dk ?_ | fail)
  refine .ofL (s' := ⟨[(6, .osl 7)], [(7, .row 66 5 (l.length - 1) (((l.eraseIdx i).flatMap encPo).map .fv))]⟩) (.inl rfl) ?_ rfl rfl ⟨⟨_, rfl, fun _ _ _ _ h => h⟩, trivial⟩
  refine St.to [(7, .cut 1000 (i + (l.length - (i + 1))))] [] rfl rfl ⟨⟨_, rfl, .cut rfl⟩, trivial⟩ ⟨?_, trivial⟩
  exact .cut rfl rfl (by omega) (by omega) h5 (.maps rfl)
theorem deleteAc_T (l : List Ac) (i : Nat) (j : Int) (hj : j = ((i + 1 : Nat) : Int)) (hi : i < l.length) (hl : l.length * 72 ≤ 140737488355328) : FunO Try.prog 83 [.osl 1000, .fv (.int .i64 (i : Int)), .fv (.int .i64 j)] [(1000, .row 69 9 l.length ((l.flatMap encAc).map .fv))] (.osl 7) [(7, .row 69 9 (l.length - 1) (((l.eraseIdx i).flatMap encAc).map .fv))] := by
  subst hj
  obtain ⟨cs1, h1, h2, h3⟩ := del_cells encAc_len l i hi
  have hclr : ∀ zs : List AV, zs.length = 9 → ∃ cs2, setC cs1 ((0 + (i + (l.length - (i + 1)))) * 9) ((List.replicate (l.length - (i + (l.length - (i + 1)))) zs).flatten) = some cs2 ∧ cs2.take ((i + (l.length - (i + 1))) * 9) = (((l.eraseIdx i).flatMap encAc).map AV.fv) := fun zs hz => by
    have h6 := setC_mk (cs := cs1) (off := (0 + (i + (l.length - (i + 1)))) * 9) (us := (List.replicate (l.length - (i + (l.length - (i + 1)))) zs).flatten) (by
      rw [h2, List.length_flatten, List.map_replicate, List.sum_replicate_nat, hz]
      omega)
    refine ⟨_, h6, ?_⟩
    have := clr_cells h6
    rw [Nat.zero_add] at this
    rw [← h3, ← this, Nat.zero_add]
  obtain ⟨cs2, h4, h5⟩ := hclr [zi, zi, zb, zi, zi, zi, zi, zi, zb] rfl
  generalize hcs : (l.flatMap encAc).map AV.fv = cs at h1
  have hones : onesB cs = true := by subst hcs; exact onesB_map _
  refine FunO.bodyL tbl_ok Try.func83 rfl (by kernel_rfl) rfl rfl rfl ?_
  repeat' (first | refine X.loc ?_ | (refine X.sl3 ?_) | (apply X.appB; (· exact aR); (· exact hones); (· omega); (· exact h1); (· exact aE)) | (apply X.clr; (· exact aR); (· exact h4); (· exact aE)) | refine nx ?_ | refine X.cdT ?_ | refine X.cdF ?_ | (refine WP.condBit rfl ?_ ?_) | (refine WP.cond rfl ?_ ?_ <;> intro hcond) | refine rb ?_ | refine nd ?_ | refine dk ?_ | fail)
  refine .ofL (s' := ⟨[(6, .osl 7)], [(7, .row 69 9 (l.length - 1) (((l.eraseIdx i).flatMap encAc).map .fv))]⟩) (.inl rfl) ?_ rfl rfl ⟨⟨_, rfl, fun _ _ _ _ h => h⟩, trivial⟩
  refine St.to [(7, .cut 1000 (i + (l.length - (i + 1))))] [] rfl rfl ⟨⟨_, rfl, .cut rfl⟩, trivial⟩ ⟨?_, trivial⟩
  exact .cut rfl rfl (by omega) (by omega) h5 (.maps rfl)
end Go.Proofs.Ytmidechdlbcepaa

namespace Go.Proofs.Ytmidechdlbcepaa
open Go.RowKit
set_option maxRecDepth 100000

theorem is_T (a b : Int) : Fun Try.prog 62 [.fv (.int .i64 a), .fv (.int .i64 b)] (.agg ((encMx ⟨a, 65535, b⟩).map .fv)) := by
  refine Fun.body tbl_ok Try.func62 rfl (by kernel_rfl) rfl rfl rfl ?_
  repeat' (first | refine X.loc ?_ | refine nx ?_ | (refine WP.condBit rfl ?_ ?_) | (refine WP.cond rfl ?_ ?_ <;> intro hcond) | refine rb ?_ | refine nd ?_ | refine dk ?_ | fail)
  exact .fun (.inl rfl) rfl rfl
theorem to_T (a : Int) : Fun Try.prog 63 [.fv (.int .i64 a)] (.agg ((encDx ⟨4, 0, a⟩).map .fv)) := by
  refine Fun.body tbl_ok Try.func63 rfl (by kernel_rfl) rfl rfl rfl ?_
  repeat' (first | refine X.loc ?_ | refine nx ?_ | (refine WP.condBit rfl ?_ ?_) | (refine WP.cond rfl ?_ ?_ <;> intro hcond) | refine rb ?_ | refine nd ?_ | refine dk ?_ | fail)
  exact .fun (.inl rfl) rfl rfl
theorem put_T (a b : Int) : Fun Try.prog 65 [.fv (.int .i64 a), .fv (.int .i64 b)] (.agg ((encDx ⟨1, a, b⟩).map .fv)) := by
  refine Fun.body tbl_ok Try.func65 rfl (by kernel_rfl) rfl rfl rfl ?_
  repeat' (first | refine X.loc ?_ | refine nx ?_ | (refine WP.condBit rfl ?_ ?_) | (refine WP.cond rfl ?_ ?_ <;> intro hcond) | refine rb ?_ | refine nd ?_ | refine dk ?_ | fail)
  exact .fun (.inl rfl) rfl rfl
theorem copied_T (a b : Int) : Fun Try.prog 70 [.fv (.int .i64 a), .fv (.int .i64 b)] (.agg ((encDx ⟨2, a, b⟩).map .fv)) := by
  refine Fun.body tbl_ok Try.func70 rfl (by kernel_rfl) rfl rfl rfl ?_
  repeat' (first | refine X.loc ?_ | refine nx ?_ | (refine WP.condBit rfl ?_ ?_) | (refine WP.cond rfl ?_ ?_ <;> intro hcond) | refine rb ?_ | refine nd ?_ | refine dk ?_ | fail)
  exact .fun (.inl rfl) rfl rfl
def mkC (c : Cf) (ch : Int) (l : AV) : List AV := (encCf c).map .fv ++ [.fv (.int .i64 ch), l]
def mkB (c : Cf) (ch : Int) (g : Nat) : OB := .box 59 (mkC c ch (.osl g))
def flR (L : List Fl) : OB := .row 74 4 L.length ((L.flatMap encFl).map .fv)
theorem add_T (c : Cf) (ch : Int) (L : List Fl) (f : Fl) (hL : (L.length + 1) * 64 ≤ 140737488355328) : FunO Try.prog 61 [.optr 1000 0, .fv (.int .i64 f.table), .fv (.int .i64 f.prio), .fv (slOf encMx f.ms), .fv (slOf encDx f.ds)] [(1000, mkB c ch 1001), (1001, flR L)] (.tup []) [(1000, mkB c ch 7), (7, flR (L ++ [f]))] := by
  refine FunO.bodyL tbl_ok Try.func61 rfl (by kernel_rfl) rfl rfl rfl ?_
  unfold mkB flR mkC
  repeat' (first | refine X.loc ?_ | refine nx ?_ | refine X.cdT ?_ | refine X.cdF ?_ | (refine WP.condBit rfl ?_ ?_) | (refine WP.cond rfl ?_ ?_ <;> intro hcond) | refine rb ?_ | refine nd ?_ | refine dk ?_ | fail)
  refine .ofL (s' := ⟨[], [(1000, .box 59 ((encCf c).map .fv ++ [.fv (.int .i64 ch), .osl 7])), (7, .row 74 4 (L ++ [f]).length (((L ++ [f]).flatMap encFl).map .fv))]⟩) (by first | exact .inl rfl | exact .inr rfl) ?_ rfl rfl (by repeat' (first | exact trivial | refine ⟨⟨_, rfl, fun _ _ _ _ h => h⟩, ?_⟩))
  refine St.to [(7, .id 21)] [] rfl rfl ?_ ?_ <;> (repeat' (first | exact tA | refine t1 ?_ | exact tB | refine t2 ?_ ?_ | refine t3 ?_ | refine t4 ?_ ?_ | refine .ofEq ?_ | refine OB.To.cut rfl rfl ?_ ?_ ?_ ?_ | refine OB.To.box rfl rfl ?_ | refine ⟨⟨_, rfl, ?_⟩, ?_⟩ | refine ⟨?_, ?_⟩ | fail))
  all_goals first | omega | (simp; done) | (simp only [List.flatMap_append, List.map_append]; rfl)
end Go.Proofs.Ytmidechdlbcepaa
