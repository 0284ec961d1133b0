import Derived.Test.YtmidechdlbcepaaGreatPack04
import Derived.Laws.BitsAllLaws
import Derived.Laws.BitsLemmas
set_option linter.unusedSimpArgs false
set_option linter.unusedVariables false
namespace Go.Proofs.YtmidechdlbcepaaGreat
def raw : Bool → List UInt8 → Nat
  | _, [] => 0
  | true, b :: l => 256 * b.toNat + raw false l
  | false, b :: l => b.toNat + raw true l
def csum (n : Nat) : Nat := if n = 0 then 0 else (n - 1) % 65535 + 1
def sumOf (l : List UInt8) : Nat := 65535 - csum (raw true l)

theorem csum_small {n : Nat} (h : n ≤ 65535) : csum n = n := by unfold csum; split <;> omega
theorem csum_fold (n : Nat) (h : 65535 < n) : csum (n / 65536 + n % 65536) = csum n := by unfold csum; split <;> split <;> omega
theorem sumOf_le (l : List UInt8) : sumOf l ≤ 65535 := by unfold sumOf; omega

theorem raw_append : ∀ (p : Bool) (l : List UInt8) (b : UInt8), raw p (l ++ [b]) = raw p l + (if (p = true ∧ l.length % 2 = 0) ∨ (p = false ∧ l.length % 2 = 1) then 256 * b.toNat else b.toNat)
  | true, [], b => by simp [raw]
  | false, [], b => by simp [raw]
  | true, c :: l, b => by
    rw [List.cons_append, raw, raw_append false l b, raw, List.length_cons, Nat.add_assoc]
    congr 2
    by_cases h : l.length % 2 = 1
    · rw [if_pos (.inr ⟨rfl, h⟩), if_pos (.inl ⟨rfl, by omega⟩)]
    · rw [if_neg (by rintro (⟨h1, _⟩ | ⟨_, h1⟩); cases h1; exact h h1), if_neg (by rintro (⟨_, h1⟩ | ⟨h1, _⟩); omega; cases h1)]
  | false, c :: l, b => by
    rw [List.cons_append, raw, raw_append true l b, raw, List.length_cons, Nat.add_assoc]
    congr 2
    by_cases h : l.length % 2 = 0
    · rw [if_pos (.inl ⟨rfl, h⟩), if_pos (.inr ⟨rfl, by omega⟩)]
    · rw [if_neg (by rintro (⟨_, h1⟩ | ⟨h1, _⟩); exact h h1; cases h1), if_neg (by rintro (⟨h1, _⟩ | ⟨_, h1⟩); cases h1; omega)]

theorem raw_take {l : List UInt8} {k : Nat} {b : UInt8} (h : l[k]? = some b) : raw true (l.take (k + 1)) = raw true (l.take k) + (if k % 2 = 0 then 256 * b.toNat else b.toNat) := by
  have hk : k < l.length := (List.getElem?_eq_some_iff.1 h).1
  rw [List.take_add_one, h]
  simp only [Option.toList_some]
  rw [raw_append, List.length_take, Nat.min_eq_left (by omega)]
  congr 1
  by_cases h2 : k % 2 = 0
  · rw [if_pos (.inl ⟨rfl, h2⟩), if_pos h2]
  · rw [if_neg (by rintro (⟨_, h1⟩ | ⟨h1, _⟩); exact h2 h1; cases h1), if_neg h2]
theorem raw_le : ∀ (p : Bool) (l : List UInt8), raw p l ≤ 65280 * l.length
  | _, [] => by simp [raw]
  | true, b :: l => by have := raw_le false l; have := b.toNat_lt; simp only [raw, List.length_cons]; omega
  | false, b :: l => by have := raw_le true l; have := b.toNat_lt; simp only [raw, List.length_cons]; omega

theorem ofInt_i64 (a : Nat) (ha : a < 9223372036854775808) : (BitVec.ofInt 64 (a : Int)).toNat = a := by
  rw [BitVec.ofInt_natCast, BitVec.toNat_ofNat]; exact Nat.mod_eq_of_lt (by omega)
theorem i64_and_nat (a b : Nat) (ha : a < 9223372036854775808) (hb : b < 9223372036854775808) : bits .and .i64 (a : Int) (b : Int) = ((a &&& b : Nat) : Int) := by
  have hx : a &&& b < 2 ^ 63 := Nat.and_lt_two_pow _ (by omega)
  show IntKind.i64.wrap ((BitVec.ofInt 64 (a : Int) &&& BitVec.ofInt 64 (b : Int)).toNat : Int) = _
  rw [BitVec.toNat_and, ofInt_i64 a ha, ofInt_i64 b hb, IntKind.wrap_i64]
  omega
theorem i64_xor_nat (a b : Nat) (ha : a < 9223372036854775808) (hb : b < 9223372036854775808) : bits .xor .i64 (a : Int) (b : Int) = ((a ^^^ b : Nat) : Int) := by
  have hx : a ^^^ b < 2 ^ 63 := Nat.xor_lt_two_pow (by omega) (by omega)
  show IntKind.i64.wrap ((BitVec.ofInt 64 (a : Int) ^^^ BitVec.ofInt 64 (b : Int)).toNat : Int) = _
  rw [BitVec.toNat_xor, ofInt_i64 a ha, ofInt_i64 b hb, IntKind.wrap_i64]
  omega
theorem xor_word (q : Nat) (h : q ≤ 65535) : q ^^^ 65535 = 65535 - q := by
  apply Nat.eq_of_testBit_eq
  intro i
  rw [Nat.testBit_xor, show (65535 : Nat) = 2 ^ 16 - 1 from rfl, Nat.testBit_two_pow_sub_one, show 2 ^ 16 - 1 - q = 2 ^ 16 - (q + 1) from by omega, Nat.testBit_two_pow_sub_succ (by omega)]
  by_cases hi : i < 16
  · simp [hi]
  · have : q.testBit i = false := Nat.testBit_lt_two_pow (Nat.lt_of_le_of_lt h (Nat.lt_of_lt_of_le (show 65535 < 2 ^ 16 by omega) (Nat.pow_le_pow_right (by omega) (by omega))))
    simp [hi, this]
theorem bits_and_word (q : Nat) (h : q ≤ 65280000) : bits .and .i64 (q : Int) 65535 = (q : Int) % 65536 := by
  have := i64_and_nat q 65535 (by omega) (by omega)
  rw [show (q &&& 65535) = q % 65536 from Nat.and_two_pow_sub_one_eq_mod q 16] at this
  exact this
theorem bits_xor_word (q : Nat) (h : q ≤ 65535) : bits .xor .i64 (q : Int) 65535 = 65535 - (q : Int) := by
  have := i64_xor_nat q 65535 (by omega) (by omega)
  rw [xor_word q h] at this
  rw [show (65535 : Int) = ((65535 : Nat) : Int) from rfl, this]
  omega

def be (n : Nat) : List UInt8 := [UInt8.ofNat (n / 256), UInt8.ofNat n]
end Go.Proofs.YtmidechdlbcepaaGreat