/- The program's flat structs as data. -/
import Derived.Test.YtdbbmjdeeenlhaaRows
import Derived.Test.YtdbbmjdeeenlhaaPack10
import Derived.Test.YtdbbmjdeeenlhaaPack13
import Derived.Test.YtdbbmjdeeenlhaaPack12
set_option linter.unusedSimpArgs false
set_option linter.unusedVariables false
namespace Go.Proofs.Ytdbbmjdeeenlhaa
open Go.RowKit
set_option maxRecDepth 100000

structure Sw where
  id : Int
  tenant : Int
  gate : Int
def Sw.cells (x : Sw) : List Value := [.int .i64 x.id, .int .i64 x.tenant, .int .i64 x.gate]
def Sw.Ok (x : Sw) : Prop := I64 x.id ∧ I64 x.tenant ∧ I64 x.gate
def swLeaves : List Leaf := [.int, .int, .int]
@[simp] theorem sw_len (x : Sw) : x.cells.length = 3 := rfl
theorem sw_one (x : Sw) : ∀ u ∈ x.cells, u.oneCell' = true := by simp [Sw.cells, Value.oneCell']
theorem sw_shp (x : Sw) : Shp swLeaves x.cells := ⟨trivial, trivial, trivial, trivial⟩
theorem sw_of_ok {H : Type} {enc : TypeId × Value → H} {P : Program} {w : World} {base : Nat} {spare : Nat → Bool} {held : Bool} {Cl : TypeId → DataW H → Prop} {cs : List Value} (h : AllOk enc P w base spare held Cl swLeaves cs) : ∃ x : Sw, cs = x.cells ∧ x.Ok := by
  match cs, h.length with
  | [c0, c1, c2], _ =>
    obtain ⟨⟨a0, rfl, b0⟩, ⟨a1, rfl, b1⟩, ⟨a2, rfl, b2⟩, _⟩ := h
    exact ⟨⟨a0, a1, a2⟩, rfl, b0, b1, b2⟩
theorem sw_leaves : leaves Try.prog 2 52 = some swLeaves := by kernel_rfl
theorem sw_cellsOf : Try.prog.cellsOf 52 = 3 := by kernel_rfl
theorem sw_isAgg (W : World) : (isAgg 52).run Try.prog W = .ok true W := by kernel_rfl
theorem sw_sizeOf (W : World) : (Go.sizeOf 52).run Try.prog W = .ok 3 W := by kernel_rfl
theorem sw_bytes : Try.prog.bytesOf 52 = 24 := by kernel_rfl
theorem elem_sw : Elem Try.prog 46 52 3 24 := elem_of Try.underlying46 (z := .agg #[.int .i64 0, .int .i64 0, .int .i64 0]) (by kernel_rfl) rfl (by omega)
theorem sw_eqOk : eqOk Try.prog 2 52 = true := by kernel_rfl
theorem sw_lenOk : lenOk Try.prog 2 52 = true := by kernel_rfl
theorem sw_agg : aggB Try.prog 52 = true := by kernel_rfl
theorem eql_sw (x y : Sw) (W : World) : (binOp .eql 52 (.agg x.cells.toArray) (.agg y.cells.toArray)).run Try.prog W = .ok (.bool (beqL x.cells y.cells)) W := run_eql_plain sw_leaves sw_eqOk sw_lenOk (by omega) sw_agg _ _ (sw_shp x) (sw_shp y) W
theorem neq_sw (x y : Sw) (W : World) : (binOp .neq 52 (.agg x.cells.toArray) (.agg y.cells.toArray)).run Try.prog W = .ok (.bool (!beqL x.cells y.cells)) W := run_neq_plain sw_leaves sw_eqOk sw_lenOk (by omega) sw_agg _ _ (sw_shp x) (sw_shp y) W
theorem beq_sw (x y : Sw) : beqL x.cells y.cells = true ↔ x = y := by
  obtain ⟨a0, a1, a2⟩ := x
  obtain ⟨b0, b1, b2⟩ := y
  simp [beqL, beqV, Sw.cells]

structure Po where
  id : Int
  sw : Int
  mac : Int
  ip : Int
  ch : Int
def Po.cells (x : Po) : List Value := [.int .i64 x.id, .int .i64 x.sw, .int .i64 x.mac, .int .i64 x.ip, .int .i64 x.ch]
def Po.Ok (x : Po) : Prop := I64 x.id ∧ I64 x.sw ∧ I64 x.mac ∧ I64 x.ip ∧ I64 x.ch
def poLeaves : List Leaf := [.int, .int, .int, .int, .int]
@[simp] theorem po_len (x : Po) : x.cells.length = 5 := rfl
theorem po_one (x : Po) : ∀ u ∈ x.cells, u.oneCell' = true := by simp [Po.cells, Value.oneCell']
theorem po_shp (x : Po) : Shp poLeaves x.cells := ⟨trivial, trivial, trivial, trivial, trivial, trivial⟩
theorem po_of_ok {H : Type} {enc : TypeId × Value → H} {P : Program} {w : World} {base : Nat} {spare : Nat → Bool} {held : Bool} {Cl : TypeId → DataW H → Prop} {cs : List Value} (h : AllOk enc P w base spare held Cl poLeaves cs) : ∃ x : Po, cs = x.cells ∧ x.Ok := by
  match cs, h.length with
  | [c0, c1, c2, c3, c4], _ =>
    obtain ⟨⟨a0, rfl, b0⟩, ⟨a1, rfl, b1⟩, ⟨a2, rfl, b2⟩, ⟨a3, rfl, b3⟩, ⟨a4, rfl, b4⟩, _⟩ := h
    exact ⟨⟨a0, a1, a2, a3, a4⟩, rfl, b0, b1, b2, b3, b4⟩
theorem po_leaves : leaves Try.prog 2 54 = some poLeaves := by kernel_rfl
theorem po_cellsOf : Try.prog.cellsOf 54 = 5 := by kernel_rfl
theorem po_isAgg (W : World) : (isAgg 54).run Try.prog W = .ok true W := by kernel_rfl
theorem po_sizeOf (W : World) : (Go.sizeOf 54).run Try.prog W = .ok 5 W := by kernel_rfl
theorem po_bytes : Try.prog.bytesOf 54 = 40 := by kernel_rfl
theorem elem_po : Elem Try.prog 47 54 5 40 := elem_of Try.underlying47 (z := .agg #[.int .i64 0, .int .i64 0, .int .i64 0, .int .i64 0, .int .i64 0]) (by kernel_rfl) rfl (by omega)
theorem po_eqOk : eqOk Try.prog 2 54 = true := by kernel_rfl
theorem po_lenOk : lenOk Try.prog 2 54 = true := by kernel_rfl
theorem po_agg : aggB Try.prog 54 = true := by kernel_rfl
theorem eql_po (x y : Po) (W : World) : (binOp .eql 54 (.agg x.cells.toArray) (.agg y.cells.toArray)).run Try.prog W = .ok (.bool (beqL x.cells y.cells)) W := run_eql_plain po_leaves po_eqOk po_lenOk (by omega) po_agg _ _ (po_shp x) (po_shp y) W
theorem neq_po (x y : Po) (W : World) : (binOp .neq 54 (.agg x.cells.toArray) (.agg y.cells.toArray)).run Try.prog W = .ok (.bool (!beqL x.cells y.cells)) W := run_neq_plain po_leaves po_eqOk po_lenOk (by omega) po_agg _ _ (po_shp x) (po_shp y) W
theorem beq_po (x y : Po) : beqL x.cells y.cells = true ↔ x = y := by
  obtain ⟨a0, a1, a2, a3, a4⟩ := x
  obtain ⟨b0, b1, b2, b3, b4⟩ := y
  simp [beqL, beqV, Po.cells]

structure Ac where
  sw : Int
  prio : Int
  inn : Bool
  src : Int
  srcBits : Int
  dst : Int
  dstBits : Int
  port : Int
  deny : Bool
def Ac.cells (x : Ac) : List Value := [.int .i64 x.sw, .int .i64 x.prio, .bool x.inn, .int .i64 x.src, .int .i64 x.srcBits, .int .i64 x.dst, .int .i64 x.dstBits, .int .i64 x.port, .bool x.deny]
def Ac.Ok (x : Ac) : Prop := I64 x.sw ∧ I64 x.prio ∧ I64 x.src ∧ I64 x.srcBits ∧ I64 x.dst ∧ I64 x.dstBits ∧ I64 x.port
def acLeaves : List Leaf := [.int, .int, .bool, .int, .int, .int, .int, .int, .bool]
@[simp] theorem ac_len (x : Ac) : x.cells.length = 9 := rfl
theorem ac_one (x : Ac) : ∀ u ∈ x.cells, u.oneCell' = true := by simp [Ac.cells, Value.oneCell']
theorem ac_shp (x : Ac) : Shp acLeaves x.cells := ⟨trivial, trivial, trivial, trivial, trivial, trivial, trivial, trivial, trivial, trivial⟩
theorem ac_of_ok {H : Type} {enc : TypeId × Value → H} {P : Program} {w : World} {base : Nat} {spare : Nat → Bool} {held : Bool} {Cl : TypeId → DataW H → Prop} {cs : List Value} (h : AllOk enc P w base spare held Cl acLeaves cs) : ∃ x : Ac, cs = x.cells ∧ x.Ok := by
  match cs, h.length with
  | [c0, c1, c2, c3, c4, c5, c6, c7, c8], _ =>
    obtain ⟨⟨a0, rfl, b0⟩, ⟨a1, rfl, b1⟩, ⟨a2, rfl⟩, ⟨a3, rfl, b3⟩, ⟨a4, rfl, b4⟩, ⟨a5, rfl, b5⟩, ⟨a6, rfl, b6⟩, ⟨a7, rfl, b7⟩, ⟨a8, rfl⟩, _⟩ := h
    exact ⟨⟨a0, a1, a2, a3, a4, a5, a6, a7, a8⟩, rfl, b0, b1, b3, b4, b5, b6, b7⟩
theorem ac_leaves : leaves Try.prog 2 56 = some acLeaves := by kernel_rfl
theorem ac_cellsOf : Try.prog.cellsOf 56 = 9 := by kernel_rfl
theorem ac_isAgg (W : World) : (isAgg 56).run Try.prog W = .ok true W := by kernel_rfl
theorem ac_sizeOf (W : World) : (Go.sizeOf 56).run Try.prog W = .ok 9 W := by kernel_rfl
theorem ac_bytes : Try.prog.bytesOf 56 = 72 := by kernel_rfl
theorem elem_ac : Elem Try.prog 48 56 9 72 := elem_of Try.underlying48 (z := .agg #[.int .i64 0, .int .i64 0, .bool false, .int .i64 0, .int .i64 0, .int .i64 0, .int .i64 0, .int .i64 0, .bool false]) (by kernel_rfl) rfl (by omega)
theorem ac_eqOk : eqOk Try.prog 2 56 = true := by kernel_rfl
theorem ac_lenOk : lenOk Try.prog 2 56 = true := by kernel_rfl
theorem ac_agg : aggB Try.prog 56 = true := by kernel_rfl
theorem eql_ac (x y : Ac) (W : World) : (binOp .eql 56 (.agg x.cells.toArray) (.agg y.cells.toArray)).run Try.prog W = .ok (.bool (beqL x.cells y.cells)) W := run_eql_plain ac_leaves ac_eqOk ac_lenOk (by omega) ac_agg _ _ (ac_shp x) (ac_shp y) W
theorem neq_ac (x y : Ac) (W : World) : (binOp .neq 56 (.agg x.cells.toArray) (.agg y.cells.toArray)).run Try.prog W = .ok (.bool (!beqL x.cells y.cells)) W := run_neq_plain ac_leaves ac_eqOk ac_lenOk (by omega) ac_agg _ _ (ac_shp x) (ac_shp y) W
theorem beq_ac (x y : Ac) : beqL x.cells y.cells = true ↔ x = y := by
  obtain ⟨a0, a1, a2, a3, a4, a5, a6, a7, a8⟩ := x
  obtain ⟨b0, b1, b2, b3, b4, b5, b6, b7, b8⟩ := y
  simp [beqL, beqV, Ac.cells]

structure Mt where
  field : Int
  mask : Int
  value : Int
def Mt.cells (x : Mt) : List Value := [.int .i64 x.field, .int .i64 x.mask, .int .i64 x.value]
def Mt.Ok (x : Mt) : Prop := I64 x.field ∧ I64 x.mask ∧ I64 x.value
def mtLeaves : List Leaf := [.int, .int, .int]
@[simp] theorem mt_len (x : Mt) : x.cells.length = 3 := rfl
theorem mt_one (x : Mt) : ∀ u ∈ x.cells, u.oneCell' = true := by simp [Mt.cells, Value.oneCell']
theorem mt_shp (x : Mt) : Shp mtLeaves x.cells := ⟨trivial, trivial, trivial, trivial⟩
theorem mt_of_ok {H : Type} {enc : TypeId × Value → H} {P : Program} {w : World} {base : Nat} {spare : Nat → Bool} {held : Bool} {Cl : TypeId → DataW H → Prop} {cs : List Value} (h : AllOk enc P w base spare held Cl mtLeaves cs) : ∃ x : Mt, cs = x.cells ∧ x.Ok := by
  match cs, h.length with
  | [c0, c1, c2], _ =>
    obtain ⟨⟨a0, rfl, b0⟩, ⟨a1, rfl, b1⟩, ⟨a2, rfl, b2⟩, _⟩ := h
    exact ⟨⟨a0, a1, a2⟩, rfl, b0, b1, b2⟩
theorem mt_leaves : leaves Try.prog 2 30 = some mtLeaves := by kernel_rfl
theorem mt_cellsOf : Try.prog.cellsOf 30 = 3 := by kernel_rfl
theorem mt_isAgg (W : World) : (isAgg 30).run Try.prog W = .ok true W := by kernel_rfl
theorem mt_sizeOf (W : World) : (Go.sizeOf 30).run Try.prog W = .ok 3 W := by kernel_rfl
theorem mt_bytes : Try.prog.bytesOf 30 = 24 := by kernel_rfl
theorem elem_mt : Elem Try.prog 31 30 3 24 := elem_of Try.underlying31 (z := .agg #[.int .i64 0, .int .i64 0, .int .i64 0]) (by kernel_rfl) rfl (by omega)
theorem mt_eqOk : eqOk Try.prog 2 30 = true := by kernel_rfl
theorem mt_lenOk : lenOk Try.prog 2 30 = true := by kernel_rfl
theorem mt_agg : aggB Try.prog 30 = true := by kernel_rfl
theorem eql_mt (x y : Mt) (W : World) : (binOp .eql 30 (.agg x.cells.toArray) (.agg y.cells.toArray)).run Try.prog W = .ok (.bool (beqL x.cells y.cells)) W := run_eql_plain mt_leaves mt_eqOk mt_lenOk (by omega) mt_agg _ _ (mt_shp x) (mt_shp y) W
theorem neq_mt (x y : Mt) (W : World) : (binOp .neq 30 (.agg x.cells.toArray) (.agg y.cells.toArray)).run Try.prog W = .ok (.bool (!beqL x.cells y.cells)) W := run_neq_plain mt_leaves mt_eqOk mt_lenOk (by omega) mt_agg _ _ (mt_shp x) (mt_shp y) W
theorem beq_mt (x y : Mt) : beqL x.cells y.cells = true ↔ x = y := by
  obtain ⟨a0, a1, a2⟩ := x
  obtain ⟨b0, b1, b2⟩ := y
  simp [beqL, beqV, Mt.cells]

structure Ds where
  kind : Int
  a : Int
  n : Int
def Ds.cells (x : Ds) : List Value := [.int .i64 x.kind, .int .i64 x.a, .int .i64 x.n]
def Ds.Ok (x : Ds) : Prop := I64 x.kind ∧ I64 x.a ∧ I64 x.n
def dsLeaves : List Leaf := [.int, .int, .int]
@[simp] theorem ds_len (x : Ds) : x.cells.length = 3 := rfl
theorem ds_one (x : Ds) : ∀ u ∈ x.cells, u.oneCell' = true := by simp [Ds.cells, Value.oneCell']
theorem ds_shp (x : Ds) : Shp dsLeaves x.cells := ⟨trivial, trivial, trivial, trivial⟩
theorem ds_of_ok {H : Type} {enc : TypeId × Value → H} {P : Program} {w : World} {base : Nat} {spare : Nat → Bool} {held : Bool} {Cl : TypeId → DataW H → Prop} {cs : List Value} (h : AllOk enc P w base spare held Cl dsLeaves cs) : ∃ x : Ds, cs = x.cells ∧ x.Ok := by
  match cs, h.length with
  | [c0, c1, c2], _ =>
    obtain ⟨⟨a0, rfl, b0⟩, ⟨a1, rfl, b1⟩, ⟨a2, rfl, b2⟩, _⟩ := h
    exact ⟨⟨a0, a1, a2⟩, rfl, b0, b1, b2⟩
theorem ds_leaves : leaves Try.prog 2 33 = some dsLeaves := by kernel_rfl
theorem ds_cellsOf : Try.prog.cellsOf 33 = 3 := by kernel_rfl
theorem ds_isAgg (W : World) : (isAgg 33).run Try.prog W = .ok true W := by kernel_rfl
theorem ds_sizeOf (W : World) : (Go.sizeOf 33).run Try.prog W = .ok 3 W := by kernel_rfl
theorem ds_bytes : Try.prog.bytesOf 33 = 24 := by kernel_rfl
theorem elem_ds : Elem Try.prog 34 33 3 24 := elem_of Try.underlying34 (z := .agg #[.int .i64 0, .int .i64 0, .int .i64 0]) (by kernel_rfl) rfl (by omega)
theorem ds_eqOk : eqOk Try.prog 2 33 = true := by kernel_rfl
theorem ds_lenOk : lenOk Try.prog 2 33 = true := by kernel_rfl
theorem ds_agg : aggB Try.prog 33 = true := by kernel_rfl
theorem eql_ds (x y : Ds) (W : World) : (binOp .eql 33 (.agg x.cells.toArray) (.agg y.cells.toArray)).run Try.prog W = .ok (.bool (beqL x.cells y.cells)) W := run_eql_plain ds_leaves ds_eqOk ds_lenOk (by omega) ds_agg _ _ (ds_shp x) (ds_shp y) W
theorem neq_ds (x y : Ds) (W : World) : (binOp .neq 33 (.agg x.cells.toArray) (.agg y.cells.toArray)).run Try.prog W = .ok (.bool (!beqL x.cells y.cells)) W := run_neq_plain ds_leaves ds_eqOk ds_lenOk (by omega) ds_agg _ _ (ds_shp x) (ds_shp y) W
theorem beq_ds (x y : Ds) : beqL x.cells y.cells = true ↔ x = y := by
  obtain ⟨a0, a1, a2⟩ := x
  obtain ⟨b0, b1, b2⟩ := y
  simp [beqL, beqV, Ds.cells]

structure Rw where
  kind : Int
  a : Int
  b : Int
  c : Int
def Rw.cells (x : Rw) : List Value := [.int .i64 x.kind, .int .i64 x.a, .int .i64 x.b, .int .i64 x.c]
def Rw.Ok (x : Rw) : Prop := I64 x.kind ∧ I64 x.a ∧ I64 x.b ∧ I64 x.c
def rwLeaves : List Leaf := [.int, .int, .int, .int]
@[simp] theorem rw_len (x : Rw) : x.cells.length = 4 := rfl
theorem rw_one (x : Rw) : ∀ u ∈ x.cells, u.oneCell' = true := by simp [Rw.cells, Value.oneCell']
theorem rw_shp (x : Rw) : Shp rwLeaves x.cells := ⟨trivial, trivial, trivial, trivial, trivial⟩
theorem rw_of_ok {H : Type} {enc : TypeId × Value → H} {P : Program} {w : World} {base : Nat} {spare : Nat → Bool} {held : Bool} {Cl : TypeId → DataW H → Prop} {cs : List Value} (h : AllOk enc P w base spare held Cl rwLeaves cs) : ∃ x : Rw, cs = x.cells ∧ x.Ok := by
  match cs, h.length with
  | [c0, c1, c2, c3], _ =>
    obtain ⟨⟨a0, rfl, b0⟩, ⟨a1, rfl, b1⟩, ⟨a2, rfl, b2⟩, ⟨a3, rfl, b3⟩, _⟩ := h
    exact ⟨⟨a0, a1, a2, a3⟩, rfl, b0, b1, b2, b3⟩
theorem rw_leaves : leaves Try.prog 2 67 = some rwLeaves := by kernel_rfl
theorem rw_cellsOf : Try.prog.cellsOf 67 = 4 := by kernel_rfl
theorem rw_isAgg (W : World) : (isAgg 67).run Try.prog W = .ok true W := by kernel_rfl
theorem rw_sizeOf (W : World) : (Go.sizeOf 67).run Try.prog W = .ok 4 W := by kernel_rfl
theorem rw_bytes : Try.prog.bytesOf 67 = 32 := by kernel_rfl
theorem elem_rw : Elem Try.prog 40 67 4 32 := elem_of Try.underlying40 (z := .agg #[.int .i64 0, .int .i64 0, .int .i64 0, .int .i64 0]) (by kernel_rfl) rfl (by omega)
theorem rw_eqOk : eqOk Try.prog 2 67 = true := by kernel_rfl
theorem rw_lenOk : lenOk Try.prog 2 67 = true := by kernel_rfl
theorem rw_agg : aggB Try.prog 67 = true := by kernel_rfl
theorem eql_rw (x y : Rw) (W : World) : (binOp .eql 67 (.agg x.cells.toArray) (.agg y.cells.toArray)).run Try.prog W = .ok (.bool (beqL x.cells y.cells)) W := run_eql_plain rw_leaves rw_eqOk rw_lenOk (by omega) rw_agg _ _ (rw_shp x) (rw_shp y) W
theorem neq_rw (x y : Rw) (W : World) : (binOp .neq 67 (.agg x.cells.toArray) (.agg y.cells.toArray)).run Try.prog W = .ok (.bool (!beqL x.cells y.cells)) W := run_neq_plain rw_leaves rw_eqOk rw_lenOk (by omega) rw_agg _ _ (rw_shp x) (rw_shp y) W
theorem beq_rw (x y : Rw) : beqL x.cells y.cells = true ↔ x = y := by
  obtain ⟨a0, a1, a2, a3⟩ := x
  obtain ⟨b0, b1, b2, b3⟩ := y
  simp [beqL, beqV, Rw.cells]

end Go.Proofs.Ytdbbmjdeeenlhaa

/- What is wanted, as it came in. -/
namespace Go.Proofs.Ytdbbmjdeeenlhaa
open Go.ChangeShapes Go.WideShapes Go.ChangeAt Go.RowKit Go.Deep
set_option maxRecDepth 100000

/-- What is wanted. -/
structure Cf where
  ss : List Sw
  ps : List Po
  acs : List Ac

section
variable {H : Type} {enc : TypeId × Value → H} {w : World} {base : Nat} {spare : Nat → Bool} {held : Bool}

/-- A slice of flat structs that came in, within the form's own reach. -/
theorem open_flat {α : Type} {cells : α → List Value} {Ok : α → Prop} {P : Program} {t e : TypeId} {n k by_ : Nat} {ls : List Leaf} {v : Value} (hu : P.underlying t = some (.slice e)) (hl : leaves P n e = some ls) (hc : P.cellsOf e = k) (hk : ls.length = k) (hp : 0 < k)
    (hby : P.bytesOf e = by_) (hd : ∀ cs, AllOk enc P w base spare held (SizedCl P) ls cs → ∃ x, cs = cells x ∧ Ok x) (h : LeafOk enc P w base spare held (SizedCl P) (.slice t) v) :
    ∃ (l : List α) (A : Option Addr) (c : Nat), v = .slice A l.length c ∧ l.length ≤ c ∧ c ≤ maxLen ∧ (∀ x ∈ l, Ok x) ∧ Rd w (fun b => b < w.heap.size) A (l.map cells).flatten ∧ l.length * by_ ≤ reachBytes := by
  obtain ⟨m, y, hm, hC⟩ := h
  obtain ⟨css, A, c, rfl, h1, h2, h3, h4, h5⟩ := open_slice_plain closed_sized hu hl (hc.trans hk.symm) (by omega) hm hC
  obtain ⟨l, rfl, hl'⟩ := decode_all hd css h3
  refine ⟨l, A, c, by simp, by simpa using h1, h2, hl', h4, ?_⟩
  rcases h5 with h5 | ⟨el, sp, hE, hlen⟩
  · have : l = [] := by simpa using h5
    subst this
    simp
  · have := hE ((el.length + sp.length) * P.bytesOf e) (by simp [DataW.weights, hu])
    rw [hby] at this
    simp at hlen
    rw [← hlen]
    exact Nat.le_trans (Nat.mul_le_mul_right _ (by omega)) this

def confLeaves : List Leaf := [.slice 46, .slice 47, .slice 48]
theorem conf_leaves : leaves Try.prog 2 50 = some confLeaves := by kernel_rfl
def Cf.Ok (c : Cf) : Prop := (∀ x ∈ c.ss, x.Ok) ∧ (∀ x ∈ c.ps, x.Ok) ∧ (∀ x ∈ c.acs, x.Ok)

theorem open_conf {r : Reach} {b0 : Nat} {v : Value} {d : DataW H} {p : List MemPlace} (hv : Value.okWide Try.prog w r b0 50 v) (h : DataW.Trod enc Try.prog w base spare held 50 v d p) (hs : SizedCl Try.prog 50 d) :
    ∃ (c : Cf) (A0 A1 A2 : Option Addr) (c0 c1 c2 : Nat), v = .agg #[.slice A0 c.ss.length c0, .slice A1 c.ps.length c1, .slice A2 c.acs.length c2] ∧ c.Ok ∧ (c.ss.length ≤ maxLen ∧ c.ps.length ≤ maxLen ∧ c.acs.length ≤ maxLen) ∧
      Rd w (fun b => b < w.heap.size) A0 (c.ss.map Sw.cells).flatten ∧ Rd w (fun b => b < w.heap.size) A1 (c.ps.map Po.cells).flatten ∧ Rd w (fun b => b < w.heap.size) A2 (c.acs.map Ac.cells).flatten ∧
      c.ss.length * 24 ≤ reachBytes ∧ c.ps.length * 40 ≤ reachBytes ∧ c.acs.length * 72 ≤ reachBytes := by
  obtain ⟨cs, rfl, hcs⟩ := open_struct_c closed_sized Try.underlying50 conf_leaves hv h hs
  match cs, hcs with
  | [v0, v1, v2], ⟨l0, l1, l2, _⟩ =>
    obtain ⟨ss, A0, c0, rfl, a1, a2, a3, a4, a5⟩ := open_flat Try.underlying46 sw_leaves sw_cellsOf rfl (by omega) sw_bytes (fun _ h => sw_of_ok h) l0
    obtain ⟨ps, A1, c1, rfl, b1, b2, b3, b4, b5⟩ := open_flat Try.underlying47 po_leaves po_cellsOf rfl (by omega) po_bytes (fun _ h => po_of_ok h) l1
    obtain ⟨acs, A2, c2, rfl, d1, d2, d3, d4, d5⟩ := open_flat Try.underlying48 ac_leaves ac_cellsOf rfl (by omega) ac_bytes (fun _ h => ac_of_ok h) l2
    exact ⟨⟨ss, ps, acs⟩, A0, A1, A2, c0, c1, c2, rfl, ⟨a3, b3, d3⟩, ⟨Nat.le_trans a1 a2, Nat.le_trans b1 b2, Nat.le_trans d1 d2⟩, a4, b4, d4, a5, b5, d5⟩
end

theorem reach_le {n : Nat} (h : n ≤ reachBytes) : n ≤ 140737488355328 := Nat.le_trans h (by decide)
end Go.Proofs.Ytdbbmjdeeenlhaa
