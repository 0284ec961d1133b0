import Derived.WalkKit
import Derived.WalkSpells
import Derived.WalkLawsBesides
import Derived.Lib.Hide
import Derived.Deep.QuietTactic
import Derived.BigQuiet
import Derived.Deep.Draws
set_option linter.unusedSimpArgs false
set_option linter.unusedVariables false
namespace Go.Proofs.YtmidechdlbcepaaGreat
def word (n : Int) : Bool := decide (0 ≤ n ∧ n ≤ 65535)

def inR (n lo hi : Int) : Bool := decide (lo ≤ n ∧ n ≤ hi)
theorem inR_iff {n lo hi : Int} : inR n lo hi = true ↔ lo ≤ n ∧ n ≤ hi := by simp [inR]
theorem inR_not {n lo hi : Int} : inR n lo hi = false ↔ ¬ (lo ≤ n ∧ n ≤ hi) := by simp [inR]
structure Fr where
  dst : Int
  src : Int
  kind : Int
  ipSrc : Int
  ipDst : Int
  ttl : Int
  port : Int
  body : ByteArray

def Fr.cells (f : Fr) : List Value := [.int .i64 f.dst, .int .i64 f.src, .int .i64 f.kind, .int .i64 f.ipSrc, .int .i64 f.ipDst, .int .i64 f.ttl, .int .i64 f.port, .string f.body]

def frameFault (f : Fr) : Int :=
  if f.kind < 1 ∨ 3 < f.kind then 3
  else if word f.dst = false ∨ word f.src = false ∨ word f.ipSrc = false ∨ word f.ipDst = false ∨ word f.port = false ∨ f.ttl < 0 ∨ 255 < f.ttl then 2
  else if 40 < f.body.size then 1
  else if f.kind ≠ 3 ∧ (f.ttl ≠ 0 ∨ f.port ≠ 0 ∨ f.body.size ≠ 0) then 4
  else 0

structure Pk where
  f0 : Int
  f1 : Int
  f2 : Int
  f3 : Int
  f4 : Int
  f5 : Int
  f6 : Int
  f7 : Int
  f8 : Int
  f9 : Int
  body : ByteArray
def Pk.fields (p : Pk) : List Int := [p.f0, p.f1, p.f2, p.f3, p.f4, p.f5, p.f6, p.f7, p.f8, p.f9]
def Pk.cells (p : Pk) : List Value := [.int .i64 p.f0, .int .i64 p.f1, .int .i64 p.f2, .int .i64 p.f3, .int .i64 p.f4, .int .i64 p.f5, .int .i64 p.f6, .int .i64 p.f7, .int .i64 p.f8, .int .i64 p.f9, .string p.body]
def packetFault (p : Pk) : Int :=
  if p.fields.all word = true then (if 40 < p.body.size then 1 else 0) else 2

theorem word_iff {n : Int} : word n = true ↔ 0 ≤ n ∧ n ≤ 65535 := by simp [word]
theorem word_not {n : Int} : word n = false ↔ ¬ (0 ≤ n ∧ n ≤ 65535) := by simp [word]
theorem toList_isEmpty (s : ByteArray) : s.toList.isEmpty = decide (s.size = 0) := by
  rw [ByteArray.toList_eq]
  cases s with
  | mk d =>
    cases d with
    | mk l => cases l <;> simp [ByteArray.size]

open Go.RowKit
end Go.Proofs.YtmidechdlbcepaaGreat