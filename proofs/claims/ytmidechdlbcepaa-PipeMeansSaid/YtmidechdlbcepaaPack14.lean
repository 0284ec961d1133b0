import Derived.Test.YtmidechdlbcepaaRows
import Derived.Test.YtmidechdlbcepaaPack10
import Derived.Test.YtmidechdlbcepaaPack13
import Derived.Test.YtmidechdlbcepaaPack12
set_option linter.unusedSimpArgs false
set_option linter.unusedVariables false
namespace Go.Proofs.Ytmidechdlbcepaa
open Go.RowKit
set_option maxRecDepth 100000

structure Sw where
  id : Int
  tenant : Int
  gate : Int
def Sw.cells (x : Sw) : List Value := [.int .i64 x.id, .int .i64 x.tenant, .int .i64 x.gate]
def Sw.Ok (x : Sw) : Prop := I64 x.id ∧ I64 x.tenant ∧ I64 x.gate
def swLeaves : List Leaf := [.int, .int, .int]
@[simp] theorem sw_len (x : Sw) : x.cells.length = 3 := rfl
theorem sw_one (x : Sw) : ∀ u ∈ x.cells, u.oneCell' = true := by simp [Sw.cells, Value.oneCell']
theorem sw_of_ok {H : Type} {enc : TypeId × Value → H} {P : Program} {w : World} {base : Nat} {spare : Nat → Bool} {held : Bool} {Cl : TypeId → DataW H → Prop} {cs : List Value} (h : AllOk enc P w base spare held Cl swLeaves cs) : ∃ x : Sw, cs = x.cells ∧ x.Ok := by
  match cs, h.length with
  | [c0, c1, c2], _ =>
    obtain ⟨⟨a0, rfl, b0⟩, ⟨a1, rfl, b1⟩, ⟨a2, rfl, b2⟩, _⟩ := h
    exact ⟨⟨a0, a1, a2⟩, rfl, b0, b1, b2⟩
theorem sw_leaves : leaves Try.prog 2 63 = some swLeaves := by kernel_rfl
theorem sw_cellsOf : Try.prog.cellsOf 63 = 3 := by kernel_rfl
theorem sw_bytes : Try.prog.bytesOf 63 = 24 := by kernel_rfl
structure Po where
  id : Int
  sw : Int
  mac : Int
  ip : Int
  ch : Int
def Po.cells (x : Po) : List Value := [.int .i64 x.id, .int .i64 x.sw, .int .i64 x.mac, .int .i64 x.ip, .int .i64 x.ch]
def Po.Ok (x : Po) : Prop := I64 x.id ∧ I64 x.sw ∧ I64 x.mac ∧ I64 x.ip ∧ I64 x.ch
def poLeaves : List Leaf := [.int, .int, .int, .int, .int]
@[simp] theorem po_len (x : Po) : x.cells.length = 5 := rfl
theorem po_one (x : Po) : ∀ u ∈ x.cells, u.oneCell' = true := by simp [Po.cells, Value.oneCell']
theorem po_of_ok {H : Type} {enc : TypeId × Value → H} {P : Program} {w : World} {base : Nat} {spare : Nat → Bool} {held : Bool} {Cl : TypeId → DataW H → Prop} {cs : List Value} (h : AllOk enc P w base spare held Cl poLeaves cs) : ∃ x : Po, cs = x.cells ∧ x.Ok := by
  match cs, h.length with
  | [c0, c1, c2, c3, c4], _ =>
    obtain ⟨⟨a0, rfl, b0⟩, ⟨a1, rfl, b1⟩, ⟨a2, rfl, b2⟩, ⟨a3, rfl, b3⟩, ⟨a4, rfl, b4⟩, _⟩ := h
    exact ⟨⟨a0, a1, a2, a3, a4⟩, rfl, b0, b1, b2, b3, b4⟩
theorem po_leaves : leaves Try.prog 2 66 = some poLeaves := by kernel_rfl
theorem po_cellsOf : Try.prog.cellsOf 66 = 5 := by kernel_rfl
theorem po_bytes : Try.prog.bytesOf 66 = 40 := by kernel_rfl
structure Ac where
  sw : Int
  prio : Int
  inn : Bool
  src : Int
  srcBits : Int
  dst : Int
  dstBits : Int
  port : Int
  deny : Bool
def Ac.cells (x : Ac) : List Value := [.int .i64 x.sw, .int .i64 x.prio, .bool x.inn, .int .i64 x.src, .int .i64 x.srcBits, .int .i64 x.dst, .int .i64 x.dstBits, .int .i64 x.port, .bool x.deny]
def Ac.Ok (x : Ac) : Prop := I64 x.sw ∧ I64 x.prio ∧ I64 x.src ∧ I64 x.srcBits ∧ I64 x.dst ∧ I64 x.dstBits ∧ I64 x.port
def acLeaves : List Leaf := [.int, .int, .bool, .int, .int, .int, .int, .int, .bool]
@[simp] theorem ac_len (x : Ac) : x.cells.length = 9 := rfl
theorem ac_one (x : Ac) : ∀ u ∈ x.cells, u.oneCell' = true := by simp [Ac.cells, Value.oneCell']
theorem ac_of_ok {H : Type} {enc : TypeId × Value → H} {P : Program} {w : World} {base : Nat} {spare : Nat → Bool} {held : Bool} {Cl : TypeId → DataW H → Prop} {cs : List Value} (h : AllOk enc P w base spare held Cl acLeaves cs) : ∃ x : Ac, cs = x.cells ∧ x.Ok := by
  match cs, h.length with
  | [c0, c1, c2, c3, c4, c5, c6, c7, c8], _ =>
    obtain ⟨⟨a0, rfl, b0⟩, ⟨a1, rfl, b1⟩, ⟨a2, rfl⟩, ⟨a3, rfl, b3⟩, ⟨a4, rfl, b4⟩, ⟨a5, rfl, b5⟩, ⟨a6, rfl, b6⟩, ⟨a7, rfl, b7⟩, ⟨a8, rfl⟩, _⟩ := h
    exact ⟨⟨a0, a1, a2, a3, a4, a5, a6, a7, a8⟩, rfl, b0, b1, b3, b4, b5, b6, b7⟩
theorem ac_leaves : leaves Try.prog 2 69 = some acLeaves := by kernel_rfl
theorem ac_cellsOf : Try.prog.cellsOf 69 = 9 := by kernel_rfl
theorem ac_bytes : Try.prog.bytesOf 69 = 72 := by kernel_rfl
structure Mt where
  field : Int
  mask : Int
  value : Int
def Mt.cells (x : Mt) : List Value := [.int .i64 x.field, .int .i64 x.mask, .int .i64 x.value]
def Mt.Ok (x : Mt) : Prop := I64 x.field ∧ I64 x.mask ∧ I64 x.value
@[simp] theorem mt_len (x : Mt) : x.cells.length = 3 := rfl
theorem mt_one (x : Mt) : ∀ u ∈ x.cells, u.oneCell' = true := by simp [Mt.cells, Value.oneCell']
structure Ds where
  kind : Int
  a : Int
  n : Int
def Ds.cells (x : Ds) : List Value := [.int .i64 x.kind, .int .i64 x.a, .int .i64 x.n]
def Ds.Ok (x : Ds) : Prop := I64 x.kind ∧ I64 x.a ∧ I64 x.n
@[simp] theorem ds_len (x : Ds) : x.cells.length = 3 := rfl
theorem ds_one (x : Ds) : ∀ u ∈ x.cells, u.oneCell' = true := by simp [Ds.cells, Value.oneCell']
structure Rw where
  kind : Int
  a : Int
  b : Int
  c : Int
def Rw.cells (x : Rw) : List Value := [.int .i64 x.kind, .int .i64 x.a, .int .i64 x.b, .int .i64 x.c]
def Rw.Ok (x : Rw) : Prop := I64 x.kind ∧ I64 x.a ∧ I64 x.b ∧ I64 x.c
@[simp] theorem rw_len (x : Rw) : x.cells.length = 4 := rfl
theorem rw_one (x : Rw) : ∀ u ∈ x.cells, u.oneCell' = true := by simp [Rw.cells, Value.oneCell']
end Go.Proofs.Ytmidechdlbcepaa

namespace Go.Proofs.Ytmidechdlbcepaa
open Go.ChangeShapes Go.WideShapes Go.ChangeAt Go.RowKit Go.Deep
set_option maxRecDepth 100000

structure Cf where
  ss : List Sw
  ps : List Po
  acs : List Ac

section
variable {H : Type} {enc : TypeId × Value → H} {w : World} {base : Nat} {spare : Nat → Bool} {held : Bool}

def confLeaves : List Leaf := [.slice 22, .slice 23, .slice 24]
theorem conf_leaves : leaves Try.prog 2 26 = some confLeaves := by kernel_rfl
def Cf.Ok (c : Cf) : Prop := (∀ x ∈ c.ss, x.Ok) ∧ (∀ x ∈ c.ps, x.Ok) ∧ (∀ x ∈ c.acs, x.Ok)

end

theorem reach_le {n : Nat} (h : n ≤ reachBytes) : n ≤ 140737488355328 := Nat.le_trans h (by decide)
end Go.Proofs.Ytmidechdlbcepaa
