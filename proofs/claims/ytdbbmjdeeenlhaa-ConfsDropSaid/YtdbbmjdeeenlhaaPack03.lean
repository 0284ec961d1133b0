/- What the calls of the layers answer, as plain functions on plain data: no program in sight. -/
import Derived.WalkKit
import Derived.WalkSpells
import Derived.WalkLawsBesides
import Derived.Lib.Hide
import Derived.Deep.QuietTactic
import Derived.BigQuiet
import Derived.Deep.Draws
set_option linter.unusedSimpArgs false
set_option linter.unusedVariables false
namespace Go.Proofs.Ytdbbmjdeeenlhaa

/-- A word of the document: from 0 to 65535. -/
def word (n : Int) : Bool := decide (0 ≤ n ∧ n ≤ 65535)

/-- From one number to another one? -/
def inR (n lo hi : Int) : Bool := decide (lo ≤ n ∧ n ≤ hi)
theorem inR_iff {n lo hi : Int} : inR n lo hi = true ↔ lo ≤ n ∧ n ≤ hi := by simp [inR]
theorem inR_not {n lo hi : Int} : inR n lo hi = false ↔ ¬ (lo ≤ n ∧ n ≤ hi) := by simp [inR]
theorem inR_word (n : Int) : inR n 0 65535 = word n := rfl

/-- A frame's data. -/
structure Fr where
  dst : Int
  src : Int
  kind : Int
  ipSrc : Int
  ipDst : Int
  ttl : Int
  port : Int
  body : ByteArray

/-- The cells of a frame in memory. -/
def Fr.cells (f : Fr) : List Value := [.int .i64 f.dst, .int .i64 f.src, .int .i64 f.kind, .int .i64 f.ipSrc, .int .i64 f.ipDst, .int .i64 f.ttl, .int .i64 f.port, .string f.body]

/-- P1.1: what is wrong with a frame. -/
def frameFault (f : Fr) : Int :=
  if f.kind < 1 ∨ 3 < f.kind then 3
  else if word f.dst = false ∨ word f.src = false ∨ word f.ipSrc = false ∨ word f.ipDst = false ∨ word f.port = false ∨ f.ttl < 0 ∨ 255 < f.ttl then 2
  else if 40 < f.body.size then 1
  else if f.kind ≠ 3 ∧ (f.ttl ≠ 0 ∨ f.port ≠ 0 ∨ f.body.size ≠ 0) then 4
  else 0

/-- A packet's data. -/
structure Pk where
  f0 : Int
  f1 : Int
  f2 : Int
  f3 : Int
  f4 : Int
  f5 : Int
  f6 : Int
  f7 : Int
  f8 : Int
  f9 : Int
  body : ByteArray
def Pk.fields (p : Pk) : List Int := [p.f0, p.f1, p.f2, p.f3, p.f4, p.f5, p.f6, p.f7, p.f8, p.f9]
def Pk.cells (p : Pk) : List Value := [.int .i64 p.f0, .int .i64 p.f1, .int .i64 p.f2, .int .i64 p.f3, .int .i64 p.f4, .int .i64 p.f5, .int .i64 p.f6, .int .i64 p.f7, .int .i64 p.f8, .int .i64 p.f9, .string p.body]
/-- P2.2: what is wrong with a packet. -/
def packetFault (p : Pk) : Int :=
  if p.fields.all word = true then (if 40 < p.body.size then 1 else 0) else 2

/-- The frame of a packet; the packet of a frame (P4.1). -/
def framedOf (p : Pk) : Fr := ⟨p.f1, p.f2, p.f3, p.f4, p.f5, p.f6, p.f7, p.body⟩
def packetOf (f : Fr) (fin net to : Int) : Pk := ⟨fin, f.dst, f.src, f.kind, f.ipSrc, f.ipDst, f.ttl, f.port, net, to, f.body⟩

theorem word_iff {n : Int} : word n = true ↔ 0 ≤ n ∧ n ≤ 65535 := by simp [word]
theorem word_not {n : Int} : word n = false ↔ ¬ (0 ≤ n ∧ n ≤ 65535) := by simp [word]
theorem toList_isEmpty (s : ByteArray) : s.toList.isEmpty = decide (s.size = 0) := by
  rw [ByteArray.toList_eq]
  cases s with
  | mk d =>
    cases d with
    | mk l => cases l <;> simp [ByteArray.size]

theorem ret_int {k : IntKind} {a b : Int} (h : a = b) : Ending.returned (.int k a) = Ending.returned (.int k b) := by rw [h]
theorem ret_bool {a b : Bool} (h : a = b) : Ending.returned (.bool a) = Ending.returned (.bool b) := by rw [h]

open Go.RowKit
/-- What was there reads as it did, cell by cell: two rules for the walk. -/
theorem bcell {W w1 : World} {B : Nat} (hb : Below B W w1) : (∀ b o, b < B → w1.cell? ⟨b, o, none⟩ = W.cell? ⟨b, o, none⟩) ∧ (∀ b o, b < B → w1.frozen? ⟨b, o, none⟩ = W.frozen? ⟨b, o, none⟩) :=
  ⟨fun b o h => hb.cell (p := ⟨b, o, none⟩) h, fun b o h => hb.frozen (p := ⟨b, o, none⟩) h⟩
theorem al_ (w : World) (o : Obj) : Below w.heap.size w (w.alloc o) := (Below.refl _ _).alloc (Nat.le_refl _) o
theorem _root_.Go.RowKit.Below.nxt {w b c : World} (h : Below w.heap.size w b) (k : Below b.heap.size b c) : Below w.heap.size w c := h.trans (k.mono h.size)
theorem _root_.Go.RowKit.Below.more {w b : World} (h : Below w.heap.size w b) (o : Obj) : Below w.heap.size w (b.alloc o) := h.alloc h.size o
theorem rf_ (w : World) : Below w.heap.size w w := Below.refl _ _
theorem below_drewN {B : Nat} {a w : World} (h : Below B a w) (n : Nat) : Below B a (w.drewN n) := ⟨h.os, h.tape, h.output, h.size, h.block⟩
end Go.Proofs.Ytdbbmjdeeenlhaa
