import Derived.Test.YtmidechdlbcepaaGreatRows
import Derived.Test.YtmidechdlbcepaaGreatPack10
import Derived.Test.YtmidechdlbcepaaGreatPack13
import Derived.Test.YtmidechdlbcepaaGreatPack12
set_option linter.unusedSimpArgs false
set_option linter.unusedVariables false
namespace Go.Proofs.YtmidechdlbcepaaGreat
open Go.RowKit
set_option maxRecDepth 100000
structure Sw where
  id : Int
  tenant : Int
  gate : Int
def Sw.cells (x : Sw) : List Value := [.int .i64 x.id, .int .i64 x.tenant, .int .i64 x.gate]
def Sw.Ok (x : Sw) : Prop := I64 x.id ∧ I64 x.tenant ∧ I64 x.gate
@[simp] theorem sw_len (x : Sw) : x.cells.length = 3 := rfl
theorem sw_one (x : Sw) : ∀ u ∈ x.cells, u.oneCell' = true := by simp [Sw.cells, Value.oneCell']
structure Po where
  id : Int
  sw : Int
  mac : Int
  ip : Int
  ch : Int
def Po.cells (x : Po) : List Value := [.int .i64 x.id, .int .i64 x.sw, .int .i64 x.mac, .int .i64 x.ip, .int .i64 x.ch]
def Po.Ok (x : Po) : Prop := I64 x.id ∧ I64 x.sw ∧ I64 x.mac ∧ I64 x.ip ∧ I64 x.ch
@[simp] theorem po_len (x : Po) : x.cells.length = 5 := rfl
theorem po_one (x : Po) : ∀ u ∈ x.cells, u.oneCell' = true := by simp [Po.cells, Value.oneCell']
structure Ac where
  sw : Int
  prio : Int
  inn : Bool
  src : Int
  srcBits : Int
  dst : Int
  dstBits : Int
  port : Int
  deny : Bool
def Ac.cells (x : Ac) : List Value := [.int .i64 x.sw, .int .i64 x.prio, .bool x.inn, .int .i64 x.src, .int .i64 x.srcBits, .int .i64 x.dst, .int .i64 x.dstBits, .int .i64 x.port, .bool x.deny]
def Ac.Ok (x : Ac) : Prop := I64 x.sw ∧ I64 x.prio ∧ I64 x.src ∧ I64 x.srcBits ∧ I64 x.dst ∧ I64 x.dstBits ∧ I64 x.port
@[simp] theorem ac_len (x : Ac) : x.cells.length = 9 := rfl
theorem ac_one (x : Ac) : ∀ u ∈ x.cells, u.oneCell' = true := by simp [Ac.cells, Value.oneCell']
structure Mt where
  field : Int
  mask : Int
  value : Int
def Mt.cells (x : Mt) : List Value := [.int .i64 x.field, .int .i64 x.mask, .int .i64 x.value]
def Mt.Ok (x : Mt) : Prop := I64 x.field ∧ I64 x.mask ∧ I64 x.value
@[simp] theorem mt_len (x : Mt) : x.cells.length = 3 := rfl
theorem mt_one (x : Mt) : ∀ u ∈ x.cells, u.oneCell' = true := by simp [Mt.cells, Value.oneCell']
structure Ds where
  kind : Int
  a : Int
  n : Int
def Ds.cells (x : Ds) : List Value := [.int .i64 x.kind, .int .i64 x.a, .int .i64 x.n]
def Ds.Ok (x : Ds) : Prop := I64 x.kind ∧ I64 x.a ∧ I64 x.n
@[simp] theorem ds_len (x : Ds) : x.cells.length = 3 := rfl
theorem ds_one (x : Ds) : ∀ u ∈ x.cells, u.oneCell' = true := by simp [Ds.cells, Value.oneCell']
structure Rw where
  kind : Int
  a : Int
  b : Int
  c : Int
def Rw.cells (x : Rw) : List Value := [.int .i64 x.kind, .int .i64 x.a, .int .i64 x.b, .int .i64 x.c]
def Rw.Ok (x : Rw) : Prop := I64 x.kind ∧ I64 x.a ∧ I64 x.b ∧ I64 x.c
@[simp] theorem rw_len (x : Rw) : x.cells.length = 4 := rfl
theorem rw_one (x : Rw) : ∀ u ∈ x.cells, u.oneCell' = true := by simp [Rw.cells, Value.oneCell']
end Go.Proofs.YtmidechdlbcepaaGreat
namespace Go.Proofs.YtmidechdlbcepaaGreat
open Go.ChangeShapes Go.WideShapes Go.ChangeAt Go.RowKit Go.Deep
set_option maxRecDepth 100000
structure Cf where
  ss : List Sw
  ps : List Po
  acs : List Ac

section
variable {H : Type} {enc : TypeId × Value → H} {w : World} {base : Nat} {spare : Nat → Bool} {held : Bool}

def Cf.Ok (c : Cf) : Prop := (∀ x ∈ c.ss, x.Ok) ∧ (∀ x ∈ c.ps, x.Ok) ∧ (∀ x ∈ c.acs, x.Ok)

end

end Go.Proofs.YtmidechdlbcepaaGreat