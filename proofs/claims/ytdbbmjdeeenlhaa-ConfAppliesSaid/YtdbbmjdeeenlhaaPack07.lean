/- The program's flat structs as data. -/
import Derived.Test.YtdbbmjdeeenlhaaRows
import Derived.Test.YtdbbmjdeeenlhaaPack02
import Derived.Test.YtdbbmjdeeenlhaaPack06
import Derived.Test.YtdbbmjdeeenlhaaPack05
import Derived.Test.YtdbbmjdeeenlhaaPack01
import Derived.Laws.BitsAllLaws
import Derived.Laws.BitsLemmas
namespace Go.Proofs.Ytdbbmjdeeenlhaa
open Go.RowKit
set_option maxRecDepth 100000

structure Sw where
  id : Int
  tenant : Int
  gate : Int
def Sw.cells (x : Sw) : List Value := [.int .i64 x.id, .int .i64 x.tenant, .int .i64 x.gate]
def Sw.Ok (x : Sw) : Prop := I64 x.id ∧ I64 x.tenant ∧ I64 x.gate
def swLeaves : List Leaf := [.int, .int, .int]
@[simp] theorem sw_len (x : Sw) : x.cells.length = 3 := rfl
theorem sw_one (x : Sw) : ∀ u ∈ x.cells, u.oneCell' = true := by simp [Sw.cells, Value.oneCell']
theorem sw_shp (x : Sw) : Shp swLeaves x.cells := ⟨trivial, trivial, trivial, trivial⟩
theorem sw_of_ok {H : Type} {enc : TypeId × Value → H} {P : Program} {w : World} {base : Nat} {spare : Nat → Bool} {held : Bool} {Cl : TypeId → DataW H → Prop} {cs : List Value} (h : AllOk enc P w base spare held Cl swLeaves cs) : ∃ x : Sw, cs = x.cells ∧ x.Ok := by
  match cs, h.length with
  | [c0, c1, c2], _ =>
    obtain ⟨⟨a0, rfl, b0⟩, ⟨a1, rfl, b1⟩, ⟨a2, rfl, b2⟩, _⟩ := h
    exact ⟨⟨a0, a1, a2⟩, rfl, b0, b1, b2⟩
theorem sw_leaves : leaves Try.prog 2 52 = some swLeaves := by kernel_rfl
theorem sw_cellsOf : Try.prog.cellsOf 52 = 3 := by kernel_rfl
theorem sw_isAgg (W : World) : (isAgg 52).run Try.prog W = .ok true W := by kernel_rfl
theorem sw_sizeOf (W : World) : (Go.sizeOf 52).run Try.prog W = .ok 3 W := by kernel_rfl
theorem sw_bytes : Try.prog.bytesOf 52 = 24 := by kernel_rfl
theorem elem_sw : Elem Try.prog 46 52 3 24 := elem_of Try.underlying46 (z := .agg #[.int .i64 0, .int .i64 0, .int .i64 0]) (by kernel_rfl) rfl (by omega)
theorem sw_eqOk : eqOk Try.prog 2 52 = true := by kernel_rfl
theorem sw_lenOk : lenOk Try.prog 2 52 = true := by kernel_rfl
theorem sw_agg : aggB Try.prog 52 = true := by kernel_rfl
theorem eql_sw (x y : Sw) (W : World) : (binOp .eql 52 (.agg x.cells.toArray) (.agg y.cells.toArray)).run Try.prog W = .ok (.bool (beqL x.cells y.cells)) W := run_eql_plain sw_leaves sw_eqOk sw_lenOk (by omega) sw_agg _ _ (sw_shp x) (sw_shp y) W
theorem neq_sw (x y : Sw) (W : World) : (binOp .neq 52 (.agg x.cells.toArray) (.agg y.cells.toArray)).run Try.prog W = .ok (.bool (!beqL x.cells y.cells)) W := run_neq_plain sw_leaves sw_eqOk sw_lenOk (by omega) sw_agg _ _ (sw_shp x) (sw_shp y) W
theorem beq_sw (x y : Sw) : beqL x.cells y.cells = true ↔ x = y := by
  obtain ⟨a0, a1, a2⟩ := x
  obtain ⟨b0, b1, b2⟩ := y
  simp [beqL, beqV, Sw.cells]

structure Po where
  id : Int
  sw : Int
  mac : Int
  ip : Int
  ch : Int
def Po.cells (x : Po) : List Value := [.int .i64 x.id, .int .i64 x.sw, .int .i64 x.mac, .int .i64 x.ip, .int .i64 x.ch]
def Po.Ok (x : Po) : Prop := I64 x.id ∧ I64 x.sw ∧ I64 x.mac ∧ I64 x.ip ∧ I64 x.ch
def poLeaves : List Leaf := [.int, .int, .int, .int, .int]
@[simp] theorem po_len (x : Po) : x.cells.length = 5 := rfl
theorem po_one (x : Po) : ∀ u ∈ x.cells, u.oneCell' = true := by simp [Po.cells, Value.oneCell']
theorem po_shp (x : Po) : Shp poLeaves x.cells := ⟨trivial, trivial, trivial, trivial, trivial, trivial⟩
theorem po_of_ok {H : Type} {enc : TypeId × Value → H} {P : Program} {w : World} {base : Nat} {spare : Nat → Bool} {held : Bool} {Cl : TypeId → DataW H → Prop} {cs : List Value} (h : AllOk enc P w base spare held Cl poLeaves cs) : ∃ x : Po, cs = x.cells ∧ x.Ok := by
  match cs, h.length with
  | [c0, c1, c2, c3, c4], _ =>
    obtain ⟨⟨a0, rfl, b0⟩, ⟨a1, rfl, b1⟩, ⟨a2, rfl, b2⟩, ⟨a3, rfl, b3⟩, ⟨a4, rfl, b4⟩, _⟩ := h
    exact ⟨⟨a0, a1, a2, a3, a4⟩, rfl, b0, b1, b2, b3, b4⟩
theorem po_leaves : leaves Try.prog 2 54 = some poLeaves := by kernel_rfl
theorem po_cellsOf : Try.prog.cellsOf 54 = 5 := by kernel_rfl
theorem po_isAgg (W : World) : (isAgg 54).run Try.prog W = .ok true W := by kernel_rfl
theorem po_sizeOf (W : World) : (Go.sizeOf 54).run Try.prog W = .ok 5 W := by kernel_rfl
theorem po_bytes : Try.prog.bytesOf 54 = 40 := by kernel_rfl
theorem elem_po : Elem Try.prog 47 54 5 40 := elem_of Try.underlying47 (z := .agg #[.int .i64 0, .int .i64 0, .int .i64 0, .int .i64 0, .int .i64 0]) (by kernel_rfl) rfl (by omega)
theorem po_eqOk : eqOk Try.prog 2 54 = true := by kernel_rfl
theorem po_lenOk : lenOk Try.prog 2 54 = true := by kernel_rfl
theorem po_agg : aggB Try.prog 54 = true := by kernel_rfl
theorem eql_po (x y : Po) (W : World) : (binOp .eql 54 (.agg x.cells.toArray) (.agg y.cells.toArray)).run Try.prog W = .ok (.bool (beqL x.cells y.cells)) W := run_eql_plain po_leaves po_eqOk po_lenOk (by omega) po_agg _ _ (po_shp x) (po_shp y) W
theorem neq_po (x y : Po) (W : World) : (binOp .neq 54 (.agg x.cells.toArray) (.agg y.cells.toArray)).run Try.prog W = .ok (.bool (!beqL x.cells y.cells)) W := run_neq_plain po_leaves po_eqOk po_lenOk (by omega) po_agg _ _ (po_shp x) (po_shp y) W
theorem beq_po (x y : Po) : beqL x.cells y.cells = true ↔ x = y := by
  obtain ⟨a0, a1, a2, a3, a4⟩ := x
  obtain ⟨b0, b1, b2, b3, b4⟩ := y
  simp [beqL, beqV, Po.cells]

structure Ac where
  sw : Int
  prio : Int
  inn : Bool
  src : Int
  srcBits : Int
  dst : Int
  dstBits : Int
  port : Int
  deny : Bool
def Ac.cells (x : Ac) : List Value := [.int .i64 x.sw, .int .i64 x.prio, .bool x.inn, .int .i64 x.src, .int .i64 x.srcBits, .int .i64 x.dst, .int .i64 x.dstBits, .int .i64 x.port, .bool x.deny]
def Ac.Ok (x : Ac) : Prop := I64 x.sw ∧ I64 x.prio ∧ I64 x.src ∧ I64 x.srcBits ∧ I64 x.dst ∧ I64 x.dstBits ∧ I64 x.port
def acLeaves : List Leaf := [.int, .int, .bool, .int, .int, .int, .int, .int, .bool]
@[simp] theorem ac_len (x : Ac) : x.cells.length = 9 := rfl
theorem ac_one (x : Ac) : ∀ u ∈ x.cells, u.oneCell' = true := by simp [Ac.cells, Value.oneCell']
theorem ac_shp (x : Ac) : Shp acLeaves x.cells := ⟨trivial, trivial, trivial, trivial, trivial, trivial, trivial, trivial, trivial, trivial⟩
theorem ac_of_ok {H : Type} {enc : TypeId × Value → H} {P : Program} {w : World} {base : Nat} {spare : Nat → Bool} {held : Bool} {Cl : TypeId → DataW H → Prop} {cs : List Value} (h : AllOk enc P w base spare held Cl acLeaves cs) : ∃ x : Ac, cs = x.cells ∧ x.Ok := by
  match cs, h.length with
  | [c0, c1, c2, c3, c4, c5, c6, c7, c8], _ =>
    obtain ⟨⟨a0, rfl, b0⟩, ⟨a1, rfl, b1⟩, ⟨a2, rfl⟩, ⟨a3, rfl, b3⟩, ⟨a4, rfl, b4⟩, ⟨a5, rfl, b5⟩, ⟨a6, rfl, b6⟩, ⟨a7, rfl, b7⟩, ⟨a8, rfl⟩, _⟩ := h
    exact ⟨⟨a0, a1, a2, a3, a4, a5, a6, a7, a8⟩, rfl, b0, b1, b3, b4, b5, b6, b7⟩
theorem ac_leaves : leaves Try.prog 2 56 = some acLeaves := by kernel_rfl
theorem ac_cellsOf : Try.prog.cellsOf 56 = 9 := by kernel_rfl
theorem ac_isAgg (W : World) : (isAgg 56).run Try.prog W = .ok true W := by kernel_rfl
theorem ac_sizeOf (W : World) : (Go.sizeOf 56).run Try.prog W = .ok 9 W := by kernel_rfl
theorem ac_bytes : Try.prog.bytesOf 56 = 72 := by kernel_rfl
theorem elem_ac : Elem Try.prog 48 56 9 72 := elem_of Try.underlying48 (z := .agg #[.int .i64 0, .int .i64 0, .bool false, .int .i64 0, .int .i64 0, .int .i64 0, .int .i64 0, .int .i64 0, .bool false]) (by kernel_rfl) rfl (by omega)
theorem ac_eqOk : eqOk Try.prog 2 56 = true := by kernel_rfl
theorem ac_lenOk : lenOk Try.prog 2 56 = true := by kernel_rfl
theorem ac_agg : aggB Try.prog 56 = true := by kernel_rfl
theorem eql_ac (x y : Ac) (W : World) : (binOp .eql 56 (.agg x.cells.toArray) (.agg y.cells.toArray)).run Try.prog W = .ok (.bool (beqL x.cells y.cells)) W := run_eql_plain ac_leaves ac_eqOk ac_lenOk (by omega) ac_agg _ _ (ac_shp x) (ac_shp y) W
theorem neq_ac (x y : Ac) (W : World) : (binOp .neq 56 (.agg x.cells.toArray) (.agg y.cells.toArray)).run Try.prog W = .ok (.bool (!beqL x.cells y.cells)) W := run_neq_plain ac_leaves ac_eqOk ac_lenOk (by omega) ac_agg _ _ (ac_shp x) (ac_shp y) W
theorem beq_ac (x y : Ac) : beqL x.cells y.cells = true ↔ x = y := by
  obtain ⟨a0, a1, a2, a3, a4, a5, a6, a7, a8⟩ := x
  obtain ⟨b0, b1, b2, b3, b4, b5, b6, b7, b8⟩ := y
  simp [beqL, beqV, Ac.cells]

structure Mt where
  field : Int
  mask : Int
  value : Int
def Mt.cells (x : Mt) : List Value := [.int .i64 x.field, .int .i64 x.mask, .int .i64 x.value]
def Mt.Ok (x : Mt) : Prop := I64 x.field ∧ I64 x.mask ∧ I64 x.value
def mtLeaves : List Leaf := [.int, .int, .int]
@[simp] theorem mt_len (x : Mt) : x.cells.length = 3 := rfl
theorem mt_one (x : Mt) : ∀ u ∈ x.cells, u.oneCell' = true := by simp [Mt.cells, Value.oneCell']
theorem mt_shp (x : Mt) : Shp mtLeaves x.cells := ⟨trivial, trivial, trivial, trivial⟩
theorem mt_of_ok {H : Type} {enc : TypeId × Value → H} {P : Program} {w : World} {base : Nat} {spare : Nat → Bool} {held : Bool} {Cl : TypeId → DataW H → Prop} {cs : List Value} (h : AllOk enc P w base spare held Cl mtLeaves cs) : ∃ x : Mt, cs = x.cells ∧ x.Ok := by
  match cs, h.length with
  | [c0, c1, c2], _ =>
    obtain ⟨⟨a0, rfl, b0⟩, ⟨a1, rfl, b1⟩, ⟨a2, rfl, b2⟩, _⟩ := h
    exact ⟨⟨a0, a1, a2⟩, rfl, b0, b1, b2⟩
theorem mt_leaves : leaves Try.prog 2 30 = some mtLeaves := by kernel_rfl
theorem mt_cellsOf : Try.prog.cellsOf 30 = 3 := by kernel_rfl
theorem mt_isAgg (W : World) : (isAgg 30).run Try.prog W = .ok true W := by kernel_rfl
theorem mt_sizeOf (W : World) : (Go.sizeOf 30).run Try.prog W = .ok 3 W := by kernel_rfl
theorem mt_bytes : Try.prog.bytesOf 30 = 24 := by kernel_rfl
theorem elem_mt : Elem Try.prog 31 30 3 24 := elem_of Try.underlying31 (z := .agg #[.int .i64 0, .int .i64 0, .int .i64 0]) (by kernel_rfl) rfl (by omega)
theorem mt_eqOk : eqOk Try.prog 2 30 = true := by kernel_rfl
theorem mt_lenOk : lenOk Try.prog 2 30 = true := by kernel_rfl
theorem mt_agg : aggB Try.prog 30 = true := by kernel_rfl
theorem eql_mt (x y : Mt) (W : World) : (binOp .eql 30 (.agg x.cells.toArray) (.agg y.cells.toArray)).run Try.prog W = .ok (.bool (beqL x.cells y.cells)) W := run_eql_plain mt_leaves mt_eqOk mt_lenOk (by omega) mt_agg _ _ (mt_shp x) (mt_shp y) W
theorem neq_mt (x y : Mt) (W : World) : (binOp .neq 30 (.agg x.cells.toArray) (.agg y.cells.toArray)).run Try.prog W = .ok (.bool (!beqL x.cells y.cells)) W := run_neq_plain mt_leaves mt_eqOk mt_lenOk (by omega) mt_agg _ _ (mt_shp x) (mt_shp y) W
theorem beq_mt (x y : Mt) : beqL x.cells y.cells = true ↔ x = y := by
  obtain ⟨a0, a1, a2⟩ := x
  obtain ⟨b0, b1, b2⟩ := y
  simp [beqL, beqV, Mt.cells]

structure Ds where
  kind : Int
  a : Int
  n : Int
def Ds.cells (x : Ds) : List Value := [.int .i64 x.kind, .int .i64 x.a, .int .i64 x.n]
def Ds.Ok (x : Ds) : Prop := I64 x.kind ∧ I64 x.a ∧ I64 x.n
def dsLeaves : List Leaf := [.int, .int, .int]
@[simp] theorem ds_len (x : Ds) : x.cells.length = 3 := rfl
theorem ds_one (x : Ds) : ∀ u ∈ x.cells, u.oneCell' = true := by simp [Ds.cells, Value.oneCell']
theorem ds_shp (x : Ds) : Shp dsLeaves x.cells := ⟨trivial, trivial, trivial, trivial⟩
theorem ds_of_ok {H : Type} {enc : TypeId × Value → H} {P : Program} {w : World} {base : Nat} {spare : Nat → Bool} {held : Bool} {Cl : TypeId → DataW H → Prop} {cs : List Value} (h : AllOk enc P w base spare held Cl dsLeaves cs) : ∃ x : Ds, cs = x.cells ∧ x.Ok := by
  match cs, h.length with
  | [c0, c1, c2], _ =>
    obtain ⟨⟨a0, rfl, b0⟩, ⟨a1, rfl, b1⟩, ⟨a2, rfl, b2⟩, _⟩ := h
    exact ⟨⟨a0, a1, a2⟩, rfl, b0, b1, b2⟩
theorem ds_leaves : leaves Try.prog 2 33 = some dsLeaves := by kernel_rfl
theorem ds_cellsOf : Try.prog.cellsOf 33 = 3 := by kernel_rfl
theorem ds_isAgg (W : World) : (isAgg 33).run Try.prog W = .ok true W := by kernel_rfl
theorem ds_sizeOf (W : World) : (Go.sizeOf 33).run Try.prog W = .ok 3 W := by kernel_rfl
theorem ds_bytes : Try.prog.bytesOf 33 = 24 := by kernel_rfl
theorem elem_ds : Elem Try.prog 34 33 3 24 := elem_of Try.underlying34 (z := .agg #[.int .i64 0, .int .i64 0, .int .i64 0]) (by kernel_rfl) rfl (by omega)
theorem ds_eqOk : eqOk Try.prog 2 33 = true := by kernel_rfl
theorem ds_lenOk : lenOk Try.prog 2 33 = true := by kernel_rfl
theorem ds_agg : aggB Try.prog 33 = true := by kernel_rfl
theorem eql_ds (x y : Ds) (W : World) : (binOp .eql 33 (.agg x.cells.toArray) (.agg y.cells.toArray)).run Try.prog W = .ok (.bool (beqL x.cells y.cells)) W := run_eql_plain ds_leaves ds_eqOk ds_lenOk (by omega) ds_agg _ _ (ds_shp x) (ds_shp y) W
theorem neq_ds (x y : Ds) (W : World) : (binOp .neq 33 (.agg x.cells.toArray) (.agg y.cells.toArray)).run Try.prog W = .ok (.bool (!beqL x.cells y.cells)) W := run_neq_plain ds_leaves ds_eqOk ds_lenOk (by omega) ds_agg _ _ (ds_shp x) (ds_shp y) W
theorem beq_ds (x y : Ds) : beqL x.cells y.cells = true ↔ x = y := by
  obtain ⟨a0, a1, a2⟩ := x
  obtain ⟨b0, b1, b2⟩ := y
  simp [beqL, beqV, Ds.cells]

structure Rw where
  kind : Int
  a : Int
  b : Int
  c : Int
def Rw.cells (x : Rw) : List Value := [.int .i64 x.kind, .int .i64 x.a, .int .i64 x.b, .int .i64 x.c]
def Rw.Ok (x : Rw) : Prop := I64 x.kind ∧ I64 x.a ∧ I64 x.b ∧ I64 x.c
def rwLeaves : List Leaf := [.int, .int, .int, .int]
@[simp] theorem rw_len (x : Rw) : x.cells.length = 4 := rfl
theorem rw_one (x : Rw) : ∀ u ∈ x.cells, u.oneCell' = true := by simp [Rw.cells, Value.oneCell']
theorem rw_shp (x : Rw) : Shp rwLeaves x.cells := ⟨trivial, trivial, trivial, trivial, trivial⟩
theorem rw_of_ok {H : Type} {enc : TypeId × Value → H} {P : Program} {w : World} {base : Nat} {spare : Nat → Bool} {held : Bool} {Cl : TypeId → DataW H → Prop} {cs : List Value} (h : AllOk enc P w base spare held Cl rwLeaves cs) : ∃ x : Rw, cs = x.cells ∧ x.Ok := by
  match cs, h.length with
  | [c0, c1, c2, c3], _ =>
    obtain ⟨⟨a0, rfl, b0⟩, ⟨a1, rfl, b1⟩, ⟨a2, rfl, b2⟩, ⟨a3, rfl, b3⟩, _⟩ := h
    exact ⟨⟨a0, a1, a2, a3⟩, rfl, b0, b1, b2, b3⟩
theorem rw_leaves : leaves Try.prog 2 67 = some rwLeaves := by kernel_rfl
theorem rw_cellsOf : Try.prog.cellsOf 67 = 4 := by kernel_rfl
theorem rw_isAgg (W : World) : (isAgg 67).run Try.prog W = .ok true W := by kernel_rfl
theorem rw_sizeOf (W : World) : (Go.sizeOf 67).run Try.prog W = .ok 4 W := by kernel_rfl
theorem rw_bytes : Try.prog.bytesOf 67 = 32 := by kernel_rfl
theorem elem_rw : Elem Try.prog 40 67 4 32 := elem_of Try.underlying40 (z := .agg #[.int .i64 0, .int .i64 0, .int .i64 0, .int .i64 0]) (by kernel_rfl) rfl (by omega)
theorem rw_eqOk : eqOk Try.prog 2 67 = true := by kernel_rfl
theorem rw_lenOk : lenOk Try.prog 2 67 = true := by kernel_rfl
theorem rw_agg : aggB Try.prog 67 = true := by kernel_rfl
theorem eql_rw (x y : Rw) (W : World) : (binOp .eql 67 (.agg x.cells.toArray) (.agg y.cells.toArray)).run Try.prog W = .ok (.bool (beqL x.cells y.cells)) W := run_eql_plain rw_leaves rw_eqOk rw_lenOk (by omega) rw_agg _ _ (rw_shp x) (rw_shp y) W
theorem neq_rw (x y : Rw) (W : World) : (binOp .neq 67 (.agg x.cells.toArray) (.agg y.cells.toArray)).run Try.prog W = .ok (.bool (!beqL x.cells y.cells)) W := run_neq_plain rw_leaves rw_eqOk rw_lenOk (by omega) rw_agg _ _ (rw_shp x) (rw_shp y) W
theorem beq_rw (x y : Rw) : beqL x.cells y.cells = true ↔ x = y := by
  obtain ⟨a0, a1, a2, a3⟩ := x
  obtain ⟨b0, b1, b2, b3⟩ := y
  simp [beqL, beqV, Rw.cells]

end Go.Proofs.Ytdbbmjdeeenlhaa

/- What is wanted, as it came in. -/
namespace Go.Proofs.Ytdbbmjdeeenlhaa
open Go.ChangeShapes Go.WideShapes Go.ChangeAt Go.RowKit Go.Deep
set_option maxRecDepth 100000

/-- What is wanted. -/
structure Cf where
  ss : List Sw
  ps : List Po
  acs : List Ac

section
variable {H : Type} {enc : TypeId × Value → H} {w : World} {base : Nat} {spare : Nat → Bool} {held : Bool}

/-- A slice of flat structs that came in, within the form's own reach. -/
theorem open_flat {α : Type} {cells : α → List Value} {Ok : α → Prop} {P : Program} {t e : TypeId} {n k by_ : Nat} {ls : List Leaf} {v : Value} (hu : P.underlying t = some (.slice e)) (hl : leaves P n e = some ls) (hc : P.cellsOf e = k) (hk : ls.length = k) (hp : 0 < k)
    (hby : P.bytesOf e = by_) (hd : ∀ cs, AllOk enc P w base spare held (SizedCl P) ls cs → ∃ x, cs = cells x ∧ Ok x) (h : LeafOk enc P w base spare held (SizedCl P) (.slice t) v) :
    ∃ (l : List α) (A : Option Addr) (c : Nat), v = .slice A l.length c ∧ l.length ≤ c ∧ c ≤ maxLen ∧ (∀ x ∈ l, Ok x) ∧ Rd w (fun b => b < w.heap.size) A (l.map cells).flatten ∧ l.length * by_ ≤ reachBytes := by
  obtain ⟨m, y, hm, hC⟩ := h
  obtain ⟨css, A, c, rfl, h1, h2, h3, h4, h5⟩ := open_slice_plain closed_sized hu hl (hc.trans hk.symm) (by omega) hm hC
  obtain ⟨l, rfl, hl'⟩ := decode_all hd css h3
  refine ⟨l, A, c, by simp, by simpa using h1, h2, hl', h4, ?_⟩
  rcases h5 with h5 | ⟨el, sp, hE, hlen⟩
  · have : l = [] := by simpa using h5
    subst this
    simp
  · have := hE ((el.length + sp.length) * P.bytesOf e) (by simp [DataW.weights, hu])
    rw [hby] at this
    simp at hlen
    rw [← hlen]
    exact Nat.le_trans (Nat.mul_le_mul_right _ (by omega)) this

def confLeaves : List Leaf := [.slice 46, .slice 47, .slice 48]
theorem conf_leaves : leaves Try.prog 2 50 = some confLeaves := by kernel_rfl
def Cf.Ok (c : Cf) : Prop := (∀ x ∈ c.ss, x.Ok) ∧ (∀ x ∈ c.ps, x.Ok) ∧ (∀ x ∈ c.acs, x.Ok)

theorem open_conf {r : Reach} {b0 : Nat} {v : Value} {d : DataW H} {p : List MemPlace} (hv : Value.okWide Try.prog w r b0 50 v) (h : DataW.Trod enc Try.prog w base spare held 50 v d p) (hs : SizedCl Try.prog 50 d) :
    ∃ (c : Cf) (A0 A1 A2 : Option Addr) (c0 c1 c2 : Nat), v = .agg #[.slice A0 c.ss.length c0, .slice A1 c.ps.length c1, .slice A2 c.acs.length c2] ∧ c.Ok ∧ (c.ss.length ≤ maxLen ∧ c.ps.length ≤ maxLen ∧ c.acs.length ≤ maxLen) ∧
      Rd w (fun b => b < w.heap.size) A0 (c.ss.map Sw.cells).flatten ∧ Rd w (fun b => b < w.heap.size) A1 (c.ps.map Po.cells).flatten ∧ Rd w (fun b => b < w.heap.size) A2 (c.acs.map Ac.cells).flatten ∧
      c.ss.length * 24 ≤ reachBytes ∧ c.ps.length * 40 ≤ reachBytes ∧ c.acs.length * 72 ≤ reachBytes := by
  obtain ⟨cs, rfl, hcs⟩ := open_struct_c closed_sized Try.underlying50 conf_leaves hv h hs
  match cs, hcs with
  | [v0, v1, v2], ⟨l0, l1, l2, _⟩ =>
    obtain ⟨ss, A0, c0, rfl, a1, a2, a3, a4, a5⟩ := open_flat Try.underlying46 sw_leaves sw_cellsOf rfl (by omega) sw_bytes (fun _ h => sw_of_ok h) l0
    obtain ⟨ps, A1, c1, rfl, b1, b2, b3, b4, b5⟩ := open_flat Try.underlying47 po_leaves po_cellsOf rfl (by omega) po_bytes (fun _ h => po_of_ok h) l1
    obtain ⟨acs, A2, c2, rfl, d1, d2, d3, d4, d5⟩ := open_flat Try.underlying48 ac_leaves ac_cellsOf rfl (by omega) ac_bytes (fun _ h => ac_of_ok h) l2
    exact ⟨⟨ss, ps, acs⟩, A0, A1, A2, c0, c1, c2, rfl, ⟨a3, b3, d3⟩, ⟨Nat.le_trans a1 a2, Nat.le_trans b1 b2, Nat.le_trans d1 d2⟩, a4, b4, d4, a5, b5, d5⟩
end

theorem reach_le {n : Nat} (h : n ≤ reachBytes) : n ≤ 140737488355328 := Nat.le_trans h (by decide)
end Go.Proofs.Ytdbbmjdeeenlhaa

/- What is wanted, as plain data; what the document says of it. -/
namespace Go.Proofs.Ytdbbmjdeeenlhaa
open Go.RowKit

def encSw (x : Sw) : List FV := [.int .i64 x.id, .int .i64 x.tenant, .int .i64 x.gate]
def encPo (x : Po) : List FV := [.int .i64 x.id, .int .i64 x.sw, .int .i64 x.mac, .int .i64 x.ip, .int .i64 x.ch]
def encAc (x : Ac) : List FV := [.int .i64 x.sw, .int .i64 x.prio, .bool x.inn, .int .i64 x.src, .int .i64 x.srcBits, .int .i64 x.dst, .int .i64 x.dstBits, .int .i64 x.port, .bool x.deny]
def encCf (c : Cf) : List FV := [slOf encSw c.ss, slOf encPo c.ps, slOf encAc c.acs]
theorem encSw_len (x : Sw) : (encSw x).length = 3 := rfl
theorem encPo_len (x : Po) : (encPo x).length = 5 := rfl
theorem encAc_len (x : Ac) : (encAc x).length = 9 := rfl

/-- The place of the first that fits; -1: there is none. -/
def idxB {α : Type} (p : α → Bool) : List α → Int
  | [] => -1
  | x :: l => if p x = true then 0 else if idxB p l < 0 then -1 else idxB p l + 1
theorem idxB_ge {α : Type} (p : α → Bool) : ∀ l : List α, -1 ≤ idxB p l ∧ idxB p l < l.length
  | [] => by simp [idxB]
  | x :: l => by
    have := idxB_ge p l
    simp only [idxB, List.length_cons]
    split
    · omega
    · split <;> omega
theorem idxB_any {α : Type} (p : α → Bool) : ∀ l : List α, (idxB p l < 0 ↔ l.any p = false)
  | [] => by simp [idxB]
  | x :: l => by
    have := idxB_any p l
    have h2 := idxB_ge p l
    simp only [idxB, List.any_cons]
    split
    · rename_i h
      simp [h]
    · rename_i h
      have h3 : p x = false := by simpa using h
      rw [h3, Bool.false_or, ← this]
      split <;> omega
theorem idxB_at {α : Type} (p : α → Bool) : ∀ (l : List α) (k : Nat), idxB p l = (k : Int) → ∃ x, l[k]? = some x ∧ p x = true ∧ l.find? p = some x
  | [], k, h => by simp [idxB] at h
  | x :: l, k, h => by
    have h2 := idxB_ge p l
    simp only [idxB] at h
    split at h
    · rename_i hx
      obtain rfl : k = 0 := by omega
      exact ⟨x, rfl, hx, by simp [hx]⟩
    · rename_i hx
      split at h
      · omega
      · obtain ⟨y, h3, h4, h5⟩ := idxB_at p l (k - 1) (by omega)
        obtain ⟨j, rfl⟩ : ∃ j, k = j + 1 := ⟨k - 1, by omega⟩
        exact ⟨y, by simpa using h3, h4, by simp [hx, h5]⟩
theorem idxB_take {α : Type} (p : α → Bool) : ∀ (l : List α) (k : Nat), (∀ x ∈ l.take k, p x = false) → (∀ x, l[k]? = some x → p x = true) → k < l.length → idxB p l = k
  | [], k, _, _, h => by simp at h
  | x :: l, 0, _, h2, _ => by simp [idxB, h2 x rfl]
  | x :: l, k + 1, h1, h2, h3 => by
    have h4 := idxB_take p l k (fun y hy => h1 y (by simp [hy])) (fun y hy => h2 y (by simpa using hy)) (by simpa using h3)
    have h5 := h1 x (by simp)
    simp only [idxB, h5]
    rw [h4]
    simp
    omega
theorem idxB_none {α : Type} (p : α → Bool) (l : List α) (h : ∀ x ∈ l, p x = false) : idxB p l = -1 := by
  have h1 := idxB_ge p l
  have := (idxB_any p l).2 (by simpa using h)
  omega

/-- The tenant of a switch of this number. -/
def tenantAt (ss : List Sw) (id : Int) : Int := match ss.find? (fun s => s.id == id) with
  | some s => s.tenant
  | none => 0
/-- P3.1: has something of a tenant that number? -/
def takenB (c : Cf) (tenant ip : Int) : Bool := c.ss.any (fun s => s.tenant == tenant && s.gate == ip) || c.ps.any (fun p => p.ip == ip && tenantAt c.ss p.sw == tenant)
def swFault (c : Cf) (s : Sw) : Int :=
  if inR s.id 1 500 = false ∨ inR s.tenant 1 9 = false ∨ inR s.gate 0 65535 = false then 2
  else if c.ss.any (fun x => x.id == s.id) = true ∨ (0 < s.gate ∧ takenB c s.tenant s.gate = true) then 7
  else if 12 ≤ c.ss.length then 1
  else 0
def poFault (c : Cf) (p : Po) : Int :=
  if inR p.id 1 999 = false ∨ inR p.mac 1 59999 = false ∨ inR p.ip 1 65535 = false ∨ inR p.ch (-1) 5 = false then 2
  else if c.ss.any (fun x => x.id == p.sw) = false then 6
  else if c.ps.any (fun q => q.id == p.id || (q.sw == p.sw && q.mac == p.mac)) = true then 7
  else if takenB c (tenantAt c.ss p.sw) p.ip = true then 7
  else if 40 ≤ c.ps.length then 1
  else 0
/-- P3.1: what one of so many highest bits makes out. -/
def unitOf (bits : Int) : Int := 2 ^ (16 - bits.toNat)
def acFault (c : Cf) (a : Ac) : Int :=
  if inR a.prio 0 1000 = false ∨ inR a.src 0 65535 = false ∨ inR a.dst 0 65535 = false ∨ inR a.srcBits 0 16 = false ∨ inR a.dstBits 0 16 = false ∨ inR a.port (-1) 65535 = false then 2
  else if a.src % unitOf a.srcBits ≠ 0 ∨ a.dst % unitOf a.dstBits ≠ 0 then 4
  else if c.ss.any (fun x => x.id == a.sw) = false then 6
  else if 40 ≤ c.acs.length then 1
  else 0
/-- What may be, one after the other. -/
def swsMay (c : Cf) : List Sw → Bool
  | [] => true
  | s :: l => decide (swFault c s = 0) && swsMay { c with ss := c.ss ++ [s] } l
def posMay (c : Cf) : List Po → Bool
  | [] => true
  | s :: l => decide (poFault c s = 0) && posMay { c with ps := c.ps ++ [s] } l
def acsMay (c : Cf) : List Ac → Bool
  | [] => true
  | s :: l => decide (acFault c s = 0) && acsMay { c with acs := c.acs ++ [s] } l
def cfMay (c : Cf) : Bool := swsMay ⟨[], [], []⟩ c.ss && posMay ⟨c.ss, [], []⟩ c.ps && acsMay ⟨c.ss, c.ps, []⟩ c.acs
/-- Each port's switch is there. -/
def Cf.Wf (c : Cf) : Prop := ∀ p ∈ c.ps, c.ss.any (fun x => x.id == p.sw) = true
end Go.Proofs.Ytdbbmjdeeenlhaa

/- What is wanted: small functions, by the logic of memory. -/
namespace Go.Proofs.Ytdbbmjdeeenlhaa
open Go.RowKit
set_option maxRecDepth 100000

set_option maxHeartbeats 1000000 in
theorem indexSw_T (l : List Sw) (f : FuncId) (caps : List AV) (p : Sw → Bool) (hl : l.length < 9223372036854775807) (hp : ∀ x ∈ l, Fun Try.prog f (.agg ((encSw x).map .fv) :: caps) (.fv (.bool (p x)))) :
    Fun Try.prog 138 [.fv (slOf encSw l), .fn f caps] (.fv (.int .i64 (idxB p l))) := by
  refine Fun.body tbl_ok Try.func138 rfl (by kernel_rfl) rfl rfl rfl ?_
  repeat' (first
    | (apply Ops.loc; (· rfl); (· rfl); (· rfl); (· first | exact .eff (.mv rfl) | exact .eff (.asg rfl) | exact .eff (.lenF rfl rfl)))
    | with_reducible refine WP.seq ?_
    | with_reducible apply WP.reg tbl_ok rfl
    | with_reducible refine Ops.nil ?_
    | with_reducible refine thenQ.nor ?_
    | with_reducible refine WP.block ?_
    | fail)
  all_goals (try exact ([] : List Fp))
  refine WP.loop (ι := Nat) (fun k => ⟨[(0, .fv (slOf encSw l)), (1, .fn f caps), (7, .fv (.int .i64 l.length)), (8, .fv (.int .i64 k))], []⟩) (fun k => k ≤ l.length ∧ ∀ x ∈ l.take k, p x = false) (fun k => l.length - k) 0 ⟨by omega, by simp⟩ ?_ ?_
  · skip
    refine St.le_of ?_ ?_ <;> (repeat' (first | exact trivial | refine ⟨⟨_, rfl, .refl _⟩, ?_⟩ | refine ⟨⟨_, rfl, .any _⟩, ?_⟩ | refine ⟨⟨_, rfl, .of_eq ?_⟩, ?_⟩ | refine ⟨⟨_, rfl, fun _ _ _ _ h => h⟩, ?_⟩ | fail))
  rintro k ⟨hk, hd⟩
  try dsimp only
  by_cases hlt : k < l.length
  case neg =>
    repeat' (first
      | (apply Ops.loc; (· rfl); (· rfl); (· rfl); (· first | exact .eff (.mv rfl) | exact .eff (.asg rfl) | exact .eff (.bin rfl rfl rfl)))
      | with_reducible refine WP.seq ?_
      | with_reducible apply WP.reg tbl_ok rfl
      | with_reducible refine Ops.nil ?_
      | with_reducible refine thenQ.nor ?_
      | with_reducible refine thenQ.ex ?_
      | with_reducible refine blockQ.hit rfl ?_
      | with_reducible refine WP.block ?_
      | with_reducible refine WP.skip ?_
      | with_reducible refine WP.exit ?_
      | with_reducible refine WP.ret ?_
      | (refine WP.cond rfl ?_ ?_ <;> intro hcond)
      | fail)
    all_goals (try exact ([] : List Fp))
    · exfalso
      simp at hcond
      omega
    · refine .f1 (.inl rfl) rfl ?_
      rw [idxB_none p l (by rw [List.take_of_length_le (by omega)] at hd; exact hd)]
  case pos =>
    obtain ⟨x, hx⟩ : ∃ x, l[k]? = some x := ⟨_, List.getElem?_eq_getElem hlt⟩
    have hf := hp x (List.mem_of_getElem? hx)
    repeat' (first
      | (apply Ops.loc; (· rfl); (· rfl); (· rfl); (· first | (exact .eff (.idxS rfl rfl rfl encSw_len hx)) | exact .eff (.mv rfl) | exact .eff (.asg rfl) | exact .eff (.loadF rfl rfl) | (refine .eff (.add64 rfl rfl ?_ ?_) <;> omega) | exact .eff (.bin rfl rfl rfl) | exact .callL rfl rfl rfl (by first | exact hf) rfl))
      | with_reducible refine WP.seq ?_
      | with_reducible apply WP.reg tbl_ok rfl
      | with_reducible refine Ops.nil ?_
      | with_reducible refine thenQ.nor ?_
      | with_reducible refine thenQ.ex ?_
      | with_reducible refine thenQ.ret ?_
      | with_reducible refine blockQ.nor ?_
      | with_reducible refine blockQ.ret ?_
      | with_reducible refine blockQ.hit rfl ?_
      | with_reducible refine WP.block ?_
      | with_reducible refine WP.skip ?_
      | with_reducible refine WP.exit ?_
      | with_reducible refine WP.ret ?_
      | (refine WP.cond rfl ?_ ?_ <;> intro hcond)
      | fail)
    all_goals (try exact ([] : List Fp))
    · refine .f1 (.inl rfl) rfl ?_
      rw [idxB_take p l k hd (fun y hy => by rw [hx] at hy; obtain rfl := Option.some.inj hy; exact hcond) hlt]
    · refine ⟨k + 1, ⟨by omega, ?_⟩, by omega, ?_⟩
      · rw [List.take_add_one, hx]
        intro y hy
        simp at hy
        rcases hy with hy | rfl
        · exact hd y hy
        · exact hcond
      · skip
        refine St.le_of ?_ ?_ <;> (repeat' (first | exact trivial | refine ⟨⟨_, rfl, .refl _⟩, ?_⟩ | refine ⟨⟨_, rfl, .any _⟩, ?_⟩ | refine ⟨⟨_, rfl, .of_eq ?_⟩, ?_⟩ | refine ⟨⟨_, rfl, fun _ _ _ _ h => h⟩, ?_⟩ | fail))
    · exfalso
      simp at hcond
      omega
set_option maxHeartbeats 1000000 in
theorem indexPo_T (l : List Po) (f : FuncId) (caps : List AV) (p : Po → Bool) (hl : l.length < 9223372036854775807) (hp : ∀ x ∈ l, Fun Try.prog f (.agg ((encPo x).map .fv) :: caps) (.fv (.bool (p x)))) :
    Fun Try.prog 113 [.fv (slOf encPo l), .fn f caps] (.fv (.int .i64 (idxB p l))) := by
  refine Fun.body tbl_ok Try.func113 rfl (by kernel_rfl) rfl rfl rfl ?_
  repeat' (first
    | (apply Ops.loc; (· rfl); (· rfl); (· rfl); (· first | exact .eff (.mv rfl) | exact .eff (.asg rfl) | exact .eff (.lenF rfl rfl)))
    | with_reducible refine WP.seq ?_
    | with_reducible apply WP.reg tbl_ok rfl
    | with_reducible refine Ops.nil ?_
    | with_reducible refine thenQ.nor ?_
    | with_reducible refine WP.block ?_
    | fail)
  all_goals (try exact ([] : List Fp))
  refine WP.loop (ι := Nat) (fun k => ⟨[(0, .fv (slOf encPo l)), (1, .fn f caps), (7, .fv (.int .i64 l.length)), (8, .fv (.int .i64 k))], []⟩) (fun k => k ≤ l.length ∧ ∀ x ∈ l.take k, p x = false) (fun k => l.length - k) 0 ⟨by omega, by simp⟩ ?_ ?_
  · skip
    refine St.le_of ?_ ?_ <;> (repeat' (first | exact trivial | refine ⟨⟨_, rfl, .refl _⟩, ?_⟩ | refine ⟨⟨_, rfl, .any _⟩, ?_⟩ | refine ⟨⟨_, rfl, .of_eq ?_⟩, ?_⟩ | refine ⟨⟨_, rfl, fun _ _ _ _ h => h⟩, ?_⟩ | fail))
  rintro k ⟨hk, hd⟩
  try dsimp only
  by_cases hlt : k < l.length
  case neg =>
    repeat' (first
      | (apply Ops.loc; (· rfl); (· rfl); (· rfl); (· first | exact .eff (.mv rfl) | exact .eff (.asg rfl) | exact .eff (.bin rfl rfl rfl)))
      | with_reducible refine WP.seq ?_
      | with_reducible apply WP.reg tbl_ok rfl
      | with_reducible refine Ops.nil ?_
      | with_reducible refine thenQ.nor ?_
      | with_reducible refine thenQ.ex ?_
      | with_reducible refine blockQ.hit rfl ?_
      | with_reducible refine WP.block ?_
      | with_reducible refine WP.skip ?_
      | with_reducible refine WP.exit ?_
      | with_reducible refine WP.ret ?_
      | (refine WP.cond rfl ?_ ?_ <;> intro hcond)
      | fail)
    all_goals (try exact ([] : List Fp))
    · exfalso
      simp at hcond
      omega
    · refine .f1 (.inl rfl) rfl ?_
      rw [idxB_none p l (by rw [List.take_of_length_le (by omega)] at hd; exact hd)]
  case pos =>
    obtain ⟨x, hx⟩ : ∃ x, l[k]? = some x := ⟨_, List.getElem?_eq_getElem hlt⟩
    have hf := hp x (List.mem_of_getElem? hx)
    repeat' (first
      | (apply Ops.loc; (· rfl); (· rfl); (· rfl); (· first | (exact .eff (.idxS rfl rfl rfl encPo_len hx)) | exact .eff (.mv rfl) | exact .eff (.asg rfl) | exact .eff (.loadF rfl rfl) | (refine .eff (.add64 rfl rfl ?_ ?_) <;> omega) | exact .eff (.bin rfl rfl rfl) | exact .callL rfl rfl rfl (by first | exact hf) rfl))
      | with_reducible refine WP.seq ?_
      | with_reducible apply WP.reg tbl_ok rfl
      | with_reducible refine Ops.nil ?_
      | with_reducible refine thenQ.nor ?_
      | with_reducible refine thenQ.ex ?_
      | with_reducible refine thenQ.ret ?_
      | with_reducible refine blockQ.nor ?_
      | with_reducible refine blockQ.ret ?_
      | with_reducible refine blockQ.hit rfl ?_
      | with_reducible refine WP.block ?_
      | with_reducible refine WP.skip ?_
      | with_reducible refine WP.exit ?_
      | with_reducible refine WP.ret ?_
      | (refine WP.cond rfl ?_ ?_ <;> intro hcond)
      | fail)
    all_goals (try exact ([] : List Fp))
    · refine .f1 (.inl rfl) rfl ?_
      rw [idxB_take p l k hd (fun y hy => by rw [hx] at hy; obtain rfl := Option.some.inj hy; exact hcond) hlt]
    · refine ⟨k + 1, ⟨by omega, ?_⟩, by omega, ?_⟩
      · rw [List.take_add_one, hx]
        intro y hy
        simp at hy
        rcases hy with hy | rfl
        · exact hd y hy
        · exact hcond
      · skip
        refine St.le_of ?_ ?_ <;> (repeat' (first | exact trivial | refine ⟨⟨_, rfl, .refl _⟩, ?_⟩ | refine ⟨⟨_, rfl, .any _⟩, ?_⟩ | refine ⟨⟨_, rfl, .of_eq ?_⟩, ?_⟩ | refine ⟨⟨_, rfl, fun _ _ _ _ h => h⟩, ?_⟩ | fail))
    · exfalso
      simp at hcond
      omega
theorem containsPo_T (l : List Po) (f : FuncId) (caps : List AV) (p : Po → Bool) (hl : l.length < 9223372036854775807) (hp : ∀ x ∈ l, Fun Try.prog f (.agg ((encPo x).map .fv) :: caps) (.fv (.bool (p x)))) :
    Fun Try.prog 110 [.fv (slOf encPo l), .fn f caps] (.fv (.bool (l.any p))) := by
  refine Fun.body tbl_ok Try.func110 rfl (by kernel_rfl) rfl rfl rfl ?_
  repeat' (first
    | (apply Ops.loc; (· rfl); (· rfl); (· rfl); (· first | exact .eff (.mv rfl) | exact .eff (.asg rfl) | exact .eff (.bin rfl rfl rfl) | exact .callL rfl rfl rfl (by first | exact indexPo_T l f caps p hl hp) rfl))
    | with_reducible refine WP.seq ?_
    | with_reducible apply WP.reg tbl_ok rfl
    | with_reducible refine Ops.nil ?_
    | with_reducible refine thenQ.nor ?_
    | with_reducible refine WP.ret ?_
    | fail)
  all_goals (try exact ([] : List Fp))
  refine .f1 (.inl rfl) rfl ?_
  have := idxB_any p l
  cases h : l.any p
  · have := this.2 h
    simp
    omega
  · have h2 : ¬ idxB p l < 0 := fun h3 => by rw [this.1 h3] at h; cases h
    simp
    omega
theorem place1_T (s : Sw) (id : Int) : Fun Try.prog 144 [.agg ((encSw s).map .fv), .fptr [.int .i64 id]] (.fv (.bool (s.id == id))) := by
  refine Fun.body tbl_ok Try.func144 rfl (by kernel_rfl) rfl rfl rfl ?_
  repeat' (first
    | (apply Ops.loc; (· rfl); (· rfl); (· rfl); (· first | exact .eff (.asg rfl) | exact .eff (.loadO rfl rfl rfl) | exact .eff (.loadF rfl rfl) | exact .eff (.fldO rfl rfl rfl) | exact .eff (.bin rfl rfl rfl)))
    | with_reducible refine WP.seq ?_
    | with_reducible apply WP.reg tbl_ok rfl
    | with_reducible refine Ops.nil ?_
    | with_reducible refine thenQ.nor ?_
    | with_reducible refine WP.ret ?_
    | (apply Ops.new; (· rfl); (· rfl); (· rfl); (· first | exact .eff (.box rfl) | exact .eff (.alloc rfl) | exact .eff (.bsliceS rfl rfl rfl rfl rfl) | exact .eff (.mkS rfl rfl rfl rfl (by omega) (by omega)) | exact .eff (.zeroS rfl rfl (by intro l hl; first | cases hl | exact ⟨_, by injection hl with hl; subst hl; rfl⟩) rfl rfl rfl)); (· first | rfl | (simp only [freshB, noRefH, OB.cells, refsL_fv, refsL_app]; rfl)))
    | fail)
  all_goals (try exact ([] : List Fp))
  exact .f1 (.inl rfl) rfl rfl
theorem port1_T (s : Po) (id : Int) : Fun Try.prog 114 [.agg ((encPo s).map .fv), .fptr [.int .i64 id]] (.fv (.bool (s.id == id))) := by
  refine Fun.body tbl_ok Try.func114 rfl (by kernel_rfl) rfl rfl rfl ?_
  repeat' (first
    | (apply Ops.loc; (· rfl); (· rfl); (· rfl); (· first | exact .eff (.asg rfl) | exact .eff (.loadO rfl rfl rfl) | exact .eff (.loadF rfl rfl) | exact .eff (.fldO rfl rfl rfl) | exact .eff (.bin rfl rfl rfl)))
    | with_reducible refine WP.seq ?_
    | with_reducible apply WP.reg tbl_ok rfl
    | with_reducible refine Ops.nil ?_
    | with_reducible refine thenQ.nor ?_
    | with_reducible refine WP.ret ?_
    | (apply Ops.new; (· rfl); (· rfl); (· rfl); (· first | exact .eff (.box rfl) | exact .eff (.alloc rfl) | exact .eff (.bsliceS rfl rfl rfl rfl rfl) | exact .eff (.mkS rfl rfl rfl rfl (by omega) (by omega)) | exact .eff (.zeroS rfl rfl (by intro l hl; first | cases hl | exact ⟨_, by injection hl with hl; subst hl; rfl⟩) rfl rfl rfl)); (· first | rfl | (simp only [freshB, noRefH, OB.cells, refsL_fv, refsL_app]; rfl)))
    | fail)
  all_goals (try exact ([] : List Fp))
  exact .f1 (.inl rfl) rfl rfl
theorem place_T (c : Cf) (id : Int) (hl : c.ss.length < 9223372036854775807) : Fun Try.prog 108 [.agg ((encCf c).map .fv), .fv (.int .i64 id)] (.fv (.int .i64 (idxB (fun s => s.id == id) c.ss))) := by
  refine Fun.body tbl_ok Try.func108 rfl (by kernel_rfl) rfl rfl rfl ?_
  repeat' (first
    | (apply Ops.loc; (· rfl); (· rfl); (· rfl); (· first | exact .eff (.asg rfl) | exact .eff (.loadO rfl rfl rfl) | exact .eff (.fldO rfl rfl rfl) | exact .eff (.mkFn) | (apply LEff.callBL; (· rfl); (· rfl); (· exact indexSw_T c.ss _ [.fptr [.int .i64 id]] (fun s => s.id == id) hl (fun x _ => place1_T x id)); (· skip; repeat' (first | exact .nil | refine .cons ?_ ?_ | exact .le (.refl _) | exact .row rfl | exact .box rfl | exact .cut rfl (by omega) | exact .le .nil | refine .agg ?_ | refine .fn ?_ | fail)); (· rfl))))
    | with_reducible refine WP.seq ?_
    | with_reducible apply WP.reg tbl_ok rfl
    | with_reducible refine Ops.nil ?_
    | with_reducible refine thenQ.nor ?_
    | with_reducible refine WP.ret ?_
    | (apply Ops.new; (· rfl); (· rfl); (· rfl); (· first | exact .eff (.box rfl) | exact .eff (.alloc rfl) | exact .eff (.bsliceS rfl rfl rfl rfl rfl) | exact .eff (.mkS rfl rfl rfl rfl (by omega) (by omega)) | exact .eff (.zeroS rfl rfl (by intro l hl; first | cases hl | exact ⟨_, by injection hl with hl; subst hl; rfl⟩) rfl rfl rfl)); (· first | rfl | (simp only [freshB, noRefH, OB.cells, refsL_fv, refsL_app]; rfl)))
    | fail)
  all_goals (try exact ([] : List Fp))
  exact .f1 (.inl rfl) rfl rfl
theorem port_T (c : Cf) (id : Int) (hl : c.ps.length < 9223372036854775807) : Fun Try.prog 64 [.agg ((encCf c).map .fv), .fv (.int .i64 id)] (.fv (.int .i64 (idxB (fun s => s.id == id) c.ps))) := by
  refine Fun.body tbl_ok Try.func64 rfl (by kernel_rfl) rfl rfl rfl ?_
  repeat' (first
    | (apply Ops.loc; (· rfl); (· rfl); (· rfl); (· first | exact .eff (.asg rfl) | exact .eff (.loadO rfl rfl rfl) | exact .eff (.fldO rfl rfl rfl) | exact .eff (.mkFn) | (apply LEff.callBL; (· rfl); (· rfl); (· exact indexPo_T c.ps _ [.fptr [.int .i64 id]] (fun s => s.id == id) hl (fun x _ => port1_T x id)); (· skip; repeat' (first | exact .nil | refine .cons ?_ ?_ | exact .le (.refl _) | exact .row rfl | exact .box rfl | exact .cut rfl (by omega) | exact .le .nil | refine .agg ?_ | refine .fn ?_ | fail)); (· rfl))))
    | with_reducible refine WP.seq ?_
    | with_reducible apply WP.reg tbl_ok rfl
    | with_reducible refine Ops.nil ?_
    | with_reducible refine thenQ.nor ?_
    | with_reducible refine WP.ret ?_
    | (apply Ops.new; (· rfl); (· rfl); (· rfl); (· first | exact .eff (.box rfl) | exact .eff (.alloc rfl) | exact .eff (.bsliceS rfl rfl rfl rfl rfl) | exact .eff (.mkS rfl rfl rfl rfl (by omega) (by omega)) | exact .eff (.zeroS rfl rfl (by intro l hl; first | cases hl | exact ⟨_, by injection hl with hl; subst hl; rfl⟩) rfl rfl rfl)); (· first | rfl | (simp only [freshB, noRefH, OB.cells, refsL_fv, refsL_app]; rfl)))
    | fail)
  all_goals (try exact ([] : List Fp))
  exact .f1 (.inl rfl) rfl rfl
theorem tenantAt_at {ss : List Sw} {id : Int} {k : Nat} (h : idxB (fun s => s.id == id) ss = (k : Int)) : ∃ x, ss[k]? = some x ∧ tenantAt ss id = x.tenant := by
  obtain ⟨x, h1, _, h3⟩ := idxB_at _ _ _ h
  exact ⟨x, h1, by unfold tenantAt; rw [h3]⟩
theorem idxB_some {ss : List Sw} {id : Int} (h : ss.any (fun x => x.id == id) = true) : ∃ k : Nat, idxB (fun s => s.id == id) ss = (k : Int) := by
  have h1 := idxB_any (fun s : Sw => s.id == id) ss
  have h2 : ¬ idxB (fun s : Sw => s.id == id) ss < 0 := fun h3 => by rw [h1.1 h3] at h; cases h
  exact ⟨(idxB (fun s : Sw => s.id == id) ss).toNat, by omega⟩
theorem taken1_T (c : Cf) (p : Po) (tenant ip : Int) (hl : c.ss.length < 9223372036854775807) (hw : c.ss.any (fun x => x.id == p.sw) = true) : Fun Try.prog 145 [.agg ((encPo p).map .fv), .fptr [.int .i64 ip], .fptr (encCf c), .fptr [.int .i64 tenant]] (.fv (.bool (p.ip == ip && tenantAt c.ss p.sw == tenant))) := by
  obtain ⟨k, hk⟩ := idxB_some hw
  obtain ⟨x, hx, ht⟩ := tenantAt_at hk
  have hpl := place_T c p.sw hl
  rw [hk] at hpl
  refine Fun.body tbl_ok Try.func145 rfl (by kernel_rfl) rfl rfl rfl ?_
  repeat' (first
    | (apply Ops.loc; (· rfl); (· rfl); (· rfl); (· first | (exact .eff (.idxS rfl rfl rfl encSw_len hx)) | exact .eff (.mv rfl) | exact .eff (.asg rfl) | exact .eff (.loadO rfl rfl rfl) | exact .eff (.loadF rfl rfl) | exact .eff (.fldO rfl rfl rfl) | exact .eff (.fldF rfl rfl rfl) | exact .eff (.and rfl rfl rfl) | exact .eff (.bin rfl rfl rfl)))
    | with_reducible refine WP.seq ?_
    | with_reducible apply WP.reg tbl_ok rfl
    | with_reducible refine Ops.nil ?_
    | with_reducible refine thenQ.nor ?_
    | with_reducible refine WP.ret ?_
    | (apply Ops.gst; (· rfl); (· rfl); (· rfl); (· rfl); (· rfl); (· rfl); (· rfl); (· first | exact .b | exact .w); (· intro hc; repeat' (first | exact trivial | exact fun _ => hc | exact fun _ => hc.1 | exact fun _ => ⟨hc.1.1, hc.1.2⟩ | refine And.intro ?_ ?_)); (· intro hc; first | (exact .eff (.idxS rfl rfl rfl encSw_len hx)) | exact .eff (.asg rfl) | exact .eff (.loadO rfl rfl rfl) | exact .eff (.loadF rfl rfl) | exact .eff (.fldO rfl rfl rfl) | exact .eff (.fldF rfl rfl rfl) | exact .eff (.and rfl rfl rfl) | exact .eff (.bin rfl rfl rfl) | exact .callG rfl rfl rfl (by first | exact hpl) rfl); (· rfl); (· rfl))
    | (apply Ops.new; (· rfl); (· rfl); (· rfl); (· first | exact .eff (.box rfl) | exact .eff (.alloc rfl) | exact .eff (.bsliceS rfl rfl rfl rfl rfl) | exact .eff (.mkS rfl rfl rfl rfl (by omega) (by omega)) | exact .eff (.zeroS rfl rfl (by intro l hl; first | cases hl | exact ⟨_, by injection hl with hl; subst hl; rfl⟩) rfl rfl rfl)); (· first | rfl | (simp only [freshB, noRefH, OB.cells, refsL_fv, refsL_app]; rfl)))
    | apply WP.drwL tbl_ok mixed_no rfl
    | ((with_reducible apply drwK.mk); (· kernel_rfl); (· first | rfl | (simp only [freeF, List.all_cons, List.all_nil, noRefH, OB.cells, refsL_fv, refsL_app]; rfl)))
    | fail)
  all_goals (try exact ([] : List Fp))
  all_goals (refine .f1 (.inl rfl) rfl ?_; rw [ht])
end Go.Proofs.Ytdbbmjdeeenlhaa

/- The sum of bytes (P1.2), in plain numbers. -/
namespace Go.Proofs.Ytdbbmjdeeenlhaa

/-- Bytes as cells. -/
def bytesV (l : List UInt8) : List Value := l.map fun b => Value.int .u8 (b.toNat : Int)

/-- Pairs of bytes as words, added; hi: does the next one stand in a higher place? -/
def raw : Bool → List UInt8 → Nat
  | _, [] => 0
  | true, b :: l => 256 * b.toNat + raw false l
  | false, b :: l => b.toNat + raw true l
/-- What goes over added again. -/
def csum (n : Nat) : Nat := if n = 0 then 0 else (n - 1) % 65535 + 1
/-- The document's sum. -/
def sumOf (l : List UInt8) : Nat := 65535 - csum (raw true l)

theorem csum_le (n : Nat) : csum n ≤ 65535 := by unfold csum; split <;> omega
theorem csum_small {n : Nat} (h : n ≤ 65535) : csum n = n := by unfold csum; split <;> omega
theorem csum_fold (n : Nat) (h : 65535 < n) : csum (n / 65536 + n % 65536) = csum n := by unfold csum; split <;> split <;> omega
theorem csum_step (m v : Nat) (hv : v ≤ 65535) : csum (m + v) = if 65535 < csum m + v then csum m + v - 65535 else csum m + v := by
  unfold csum
  split <;> split <;> split <;> omega
theorem sumOf_le (l : List UInt8) : sumOf l ≤ 65535 := by unfold sumOf; omega

theorem raw_append : ∀ (p : Bool) (l : List UInt8) (b : UInt8), raw p (l ++ [b]) = raw p l + (if (p = true ∧ l.length % 2 = 0) ∨ (p = false ∧ l.length % 2 = 1) then 256 * b.toNat else b.toNat)
  | true, [], b => by simp [raw]
  | false, [], b => by simp [raw]
  | true, c :: l, b => by
    rw [List.cons_append, raw, raw_append false l b, raw, List.length_cons, Nat.add_assoc]
    congr 2
    by_cases h : l.length % 2 = 1
    · rw [if_pos (.inr ⟨rfl, h⟩), if_pos (.inl ⟨rfl, by omega⟩)]
    · rw [if_neg (by rintro (⟨h1, _⟩ | ⟨_, h1⟩); cases h1; exact h h1), if_neg (by rintro (⟨_, h1⟩ | ⟨h1, _⟩); omega; cases h1)]
  | false, c :: l, b => by
    rw [List.cons_append, raw, raw_append true l b, raw, List.length_cons, Nat.add_assoc]
    congr 2
    by_cases h : l.length % 2 = 0
    · rw [if_pos (.inl ⟨rfl, h⟩), if_pos (.inr ⟨rfl, by omega⟩)]
    · rw [if_neg (by rintro (⟨_, h1⟩ | ⟨h1, _⟩); exact h h1; cases h1), if_neg (by rintro (⟨h1, _⟩ | ⟨_, h1⟩); cases h1; omega)]

theorem raw_take {l : List UInt8} {k : Nat} {b : UInt8} (h : l[k]? = some b) : raw true (l.take (k + 1)) = raw true (l.take k) + (if k % 2 = 0 then 256 * b.toNat else b.toNat) := by
  have hk : k < l.length := (List.getElem?_eq_some_iff.1 h).1
  rw [List.take_add_one, h]
  simp only [Option.toList_some]
  rw [raw_append, List.length_take, Nat.min_eq_left (by omega)]
  congr 1
  by_cases h2 : k % 2 = 0
  · rw [if_pos (.inl ⟨rfl, h2⟩), if_pos h2]
  · rw [if_neg (by rintro (⟨_, h1⟩ | ⟨h1, _⟩); exact h2 h1; cases h1), if_neg h2]
theorem raw_le : ∀ (p : Bool) (l : List UInt8), raw p l ≤ 65280 * l.length
  | _, [] => by simp [raw]
  | true, b :: l => by have := raw_le false l; have := b.toNat_lt; simp only [raw, List.length_cons]; omega
  | false, b :: l => by have := raw_le true l; have := b.toNat_lt; simp only [raw, List.length_cons]; omega

theorem ofInt_i64 (a : Nat) (ha : a < 9223372036854775808) : (BitVec.ofInt 64 (a : Int)).toNat = a := by
  rw [BitVec.ofInt_natCast, BitVec.toNat_ofNat]; exact Nat.mod_eq_of_lt (by omega)
theorem i64_and_nat (a b : Nat) (ha : a < 9223372036854775808) (hb : b < 9223372036854775808) : bits .and .i64 (a : Int) (b : Int) = ((a &&& b : Nat) : Int) := by
  have hx : a &&& b < 2 ^ 63 := Nat.and_lt_two_pow _ (by omega)
  show IntKind.i64.wrap ((BitVec.ofInt 64 (a : Int) &&& BitVec.ofInt 64 (b : Int)).toNat : Int) = _
  rw [BitVec.toNat_and, ofInt_i64 a ha, ofInt_i64 b hb, IntKind.wrap_i64]
  omega
theorem i64_xor_nat (a b : Nat) (ha : a < 9223372036854775808) (hb : b < 9223372036854775808) : bits .xor .i64 (a : Int) (b : Int) = ((a ^^^ b : Nat) : Int) := by
  have hx : a ^^^ b < 2 ^ 63 := Nat.xor_lt_two_pow (by omega) (by omega)
  show IntKind.i64.wrap ((BitVec.ofInt 64 (a : Int) ^^^ BitVec.ofInt 64 (b : Int)).toNat : Int) = _
  rw [BitVec.toNat_xor, ofInt_i64 a ha, ofInt_i64 b hb, IntKind.wrap_i64]
  omega
theorem xor_word (q : Nat) (h : q ≤ 65535) : q ^^^ 65535 = 65535 - q := by
  apply Nat.eq_of_testBit_eq
  intro i
  rw [Nat.testBit_xor, show (65535 : Nat) = 2 ^ 16 - 1 from rfl, Nat.testBit_two_pow_sub_one, show 2 ^ 16 - 1 - q = 2 ^ 16 - (q + 1) from by omega, Nat.testBit_two_pow_sub_succ (by omega)]
  by_cases hi : i < 16
  · simp [hi]
  · have : q.testBit i = false := Nat.testBit_lt_two_pow (Nat.lt_of_le_of_lt h (Nat.lt_of_lt_of_le (show 65535 < 2 ^ 16 by omega) (Nat.pow_le_pow_right (by omega) (by omega))))
    simp [hi, this]
theorem bits_and_word (q : Nat) (h : q ≤ 65280000) : bits .and .i64 (q : Int) 65535 = (q : Int) % 65536 := by
  have := i64_and_nat q 65535 (by omega) (by omega)
  rw [show (q &&& 65535) = q % 65536 from Nat.and_two_pow_sub_one_eq_mod q 16] at this
  exact this
theorem bits_xor_word (q : Nat) (h : q ≤ 65535) : bits .xor .i64 (q : Int) 65535 = 65535 - (q : Int) := by
  have := i64_xor_nat q 65535 (by omega) (by omega)
  rw [xor_word q h] at this
  rw [show (65535 : Int) = ((65535 : Nat) : Int) from rfl, this]
  omega

/-- A word as two bytes, the higher one first. -/
def be (n : Nat) : List UInt8 := [UInt8.ofNat (n / 256), UInt8.ofNat n]
theorem be_cells (n : Nat) (h : n ≤ 65535) : bytesV (be n) = [.int .u8 ((n : Int) / 256), .int .u8 ((n : Int) % 256)] := by
  unfold bytesV be
  simp only [List.map_cons, List.map_nil, UInt8.toNat_ofNat']
  rw [Nat.mod_eq_of_lt (show n / 256 < 2 ^ 8 by omega)]
  rfl
theorem bytesV_append (a b : List UInt8) : bytesV (a ++ b) = bytesV a ++ bytesV b := by simp [bytesV]
theorem bytesV_len (a : List UInt8) : (bytesV a).length = a.length := by simp [bytesV]
theorem bytesV_one (a : List UInt8) : ∀ u ∈ bytesV a, u.oneCell' = true := by simp [bytesV, Value.oneCell']
end Go.Proofs.Ytdbbmjdeeenlhaa

/- What is wanted: may a switch, a port, a rule come? By the logic of memory. -/
namespace Go.Proofs.Ytdbbmjdeeenlhaa
open Go.RowKit
set_option maxRecDepth 100000

theorem any_at {α : Type} {p : α → Bool} {l : List α} {k : Nat} {x : α} (hk : l[k]? = some x) : (l.drop k).any p = (p x || (l.drop (k + 1)).any p) := by
  have hlt := (List.getElem?_eq_some_iff.1 hk).1
  have e : l.drop k = x :: l.drop (k + 1) := by rw [List.drop_eq_getElem_cons hlt, (List.getElem?_eq_some_iff.1 hk).2]
  rw [e, List.any_cons]
def Cf.Small (c : Cf) : Prop := c.ss.length < 9223372036854775807 ∧ c.ps.length < 9223372036854775807 ∧ c.acs.length < 9223372036854775807

set_option maxHeartbeats 1000000 in
theorem taken_T (c : Cf) (tenant ip : Int) (hl : c.Small) (hw : c.Wf) : Fun Try.prog 109 [.agg ((encCf c).map .fv), .fv (.int .i64 tenant), .fv (.int .i64 ip)] (.fv (.bool (takenB c tenant ip))) := by
  have hl1 := hl.1
  refine Fun.body tbl_ok Try.func109 rfl (by kernel_rfl) rfl rfl rfl ?_
  repeat' (first
    | (apply Ops.loc; (· rfl); (· rfl); (· rfl); (· first | exact .eff (.mv rfl) | exact .eff (.asg rfl) | exact .eff (.loadO rfl rfl rfl) | exact .eff (.fldO rfl rfl rfl) | exact .eff (.lenF rfl rfl)))
    | with_reducible refine WP.seq ?_
    | with_reducible apply WP.reg tbl_ok rfl
    | with_reducible refine Ops.nil ?_
    | with_reducible refine thenQ.nor ?_
    | with_reducible refine WP.block ?_
    | (apply Ops.new; (· rfl); (· rfl); (· rfl); (· first | exact .eff (.box rfl) | exact .eff (.alloc rfl) | exact .eff (.bsliceS rfl rfl rfl rfl rfl) | exact .eff (.mkS rfl rfl rfl rfl (by omega) (by omega)) | exact .eff (.zeroS rfl rfl (by intro l hl; first | cases hl | exact ⟨_, by injection hl with hl; subst hl; rfl⟩) rfl rfl rfl)); (· first | rfl | (simp only [freshB, noRefH, OB.cells, refsL_fv, refsL_app]; rfl)))
    | fail)
  all_goals (try exact ([] : List Fp))
  refine WP.loop (ι := Nat) (fun k => ⟨[(3, .optr 3 0), (4, .optr 4 0), (5, .optr 5 0), (10, .fv (slOf encSw c.ss)), (11, .fv (.int .i64 c.ss.length)), (12, .fv (.int .i64 k))], [(3, .box 50 ((encCf c).map .fv)), (4, .box 3 [.fv (.int .i64 tenant)]), (5, .box 3 [.fv (.int .i64 ip)])]⟩)
    (fun k => k ≤ c.ss.length ∧ c.ss.any (fun s => s.tenant == tenant && s.gate == ip) = (c.ss.drop k).any (fun s => s.tenant == tenant && s.gate == ip)) (fun k => c.ss.length - k) 0 ⟨by omega, rfl⟩ ?_ ?_
  · skip
    refine St.le_of ?_ ?_ <;> (repeat' (first | exact trivial | refine ⟨⟨_, rfl, .refl _⟩, ?_⟩ | refine ⟨⟨_, rfl, .any _⟩, ?_⟩ | refine ⟨⟨_, rfl, .of_eq ?_⟩, ?_⟩ | refine ⟨⟨_, rfl, fun _ _ _ _ h => h⟩, ?_⟩ | fail))
  rintro k ⟨hk, hd⟩
  try dsimp only
  by_cases hlt : k < c.ss.length
  case neg =>
    repeat' (first
      | (apply Ops.loc; (· rfl); (· rfl); (· rfl); (· first | exact .eff (.asg rfl) | exact .eff (.loadO rfl rfl rfl) | exact .eff (.fldO rfl rfl rfl) | exact .eff (.bin rfl rfl rfl) | exact .eff (.mkFn) | (apply LEff.callBL; (· rfl); (· rfl); (· exact containsPo_T c.ps _ [.fptr [.int .i64 ip], .fptr (encCf c), .fptr [.int .i64 tenant]] (fun p => p.ip == ip && tenantAt c.ss p.sw == tenant) hl.2.1 (fun p hp => taken1_T c p tenant ip hl1 (hw p hp))); (· skip; repeat' (first | exact .nil | refine .cons ?_ ?_ | exact .le (.refl _) | exact .row rfl | exact .box rfl | exact .cut rfl (by omega) | exact .le .nil | refine .agg ?_ | refine .fn ?_ | fail)); (· rfl))))
      | with_reducible refine WP.seq ?_
      | with_reducible apply WP.reg tbl_ok rfl
      | with_reducible refine Ops.nil ?_
      | with_reducible refine thenQ.nor ?_
      | with_reducible refine thenQ.ex ?_
      | with_reducible refine blockQ.hit rfl ?_
      | with_reducible refine WP.block ?_
      | with_reducible refine WP.skip ?_
      | with_reducible refine WP.exit ?_
      | with_reducible refine WP.ret ?_
      | (refine WP.cond rfl ?_ ?_ <;> intro hcond)
      | fail)
    all_goals (try exact ([] : List Fp))
    · exfalso
      simp at hcond
      omega
    · refine .f1 (.inl rfl) rfl ?_
      unfold takenB
      rw [hd, List.drop_of_length_le (by omega)]
      rfl
  case pos =>
    obtain ⟨x, hx⟩ : ∃ x, c.ss[k]? = some x := ⟨_, List.getElem?_eq_getElem hlt⟩
    have hat := any_at (p := fun s : Sw => s.tenant == tenant && s.gate == ip) hx
    repeat' (first
      | (apply Ops.loc; (· rfl); (· rfl); (· rfl); (· first | (exact .eff (.idxS rfl rfl rfl encSw_len hx)) | exact .eff (.mv rfl) | exact .eff (.asg rfl) | exact .eff (.loadO rfl rfl rfl) | exact .eff (.loadF rfl rfl) | exact .eff (.fldO rfl rfl rfl) | (refine .eff (.add64 rfl rfl ?_ ?_) <;> omega) | exact .eff (.and rfl rfl rfl) | exact .eff (.bin rfl rfl rfl) | exact .eff (.mkFn)))
      | with_reducible refine WP.seq ?_
      | with_reducible apply WP.reg tbl_ok rfl
      | with_reducible refine Ops.nil ?_
      | with_reducible refine thenQ.nor ?_
      | with_reducible refine thenQ.ex ?_
      | with_reducible refine thenQ.ret ?_
      | with_reducible refine blockQ.nor ?_
      | with_reducible refine blockQ.ret ?_
      | with_reducible refine blockQ.hit rfl ?_
      | with_reducible refine WP.block ?_
      | with_reducible refine WP.skip ?_
      | with_reducible refine WP.exit ?_
      | with_reducible refine WP.ret ?_
      | (refine WP.cond rfl ?_ ?_ <;> intro hcond)
      | (apply Ops.gst; (· rfl); (· rfl); (· rfl); (· rfl); (· rfl); (· rfl); (· rfl); (· first | exact .b | exact .w); (· intro hc; repeat' (first | exact trivial | exact fun _ => hc | exact fun _ => hc.1 | exact fun _ => ⟨hc.1.1, hc.1.2⟩ | refine And.intro ?_ ?_)); (· intro hc; first | (exact .eff (.idxS rfl rfl rfl encSw_len hx)) | exact .eff (.asg rfl) | exact .eff (.loadO rfl rfl rfl) | exact .eff (.loadF rfl rfl) | exact .eff (.fldO rfl rfl rfl) | (refine .eff (.add64 rfl rfl ?_ ?_) <;> omega) | exact .eff (.and rfl rfl rfl) | exact .eff (.bin rfl rfl rfl) | exact .eff (.mkFn)); (· rfl); (· rfl))
      | (apply Ops.new; (· rfl); (· rfl); (· rfl); (· first | exact .eff (.box rfl) | exact .eff (.alloc rfl) | exact .eff (.bsliceS rfl rfl rfl rfl rfl) | exact .eff (.mkS rfl rfl rfl rfl (by omega) (by omega)) | exact .eff (.zeroS rfl rfl (by intro l hl; first | cases hl | exact ⟨_, by injection hl with hl; subst hl; rfl⟩) rfl rfl rfl)); (· first | rfl | (simp only [freshB, noRefH, OB.cells, refsL_fv, refsL_app]; rfl)))
      | (apply Ops.stoW; (· rfl); (· rfl); (· rfl); (· rfl); (· rfl); (· rfl); (· first | rfl | exact onesB_map _); (· rfl); (· exact rfl); (· exact (by repeat' (first | exact .here | apply Repl.there rfl))))
      | fail)
    all_goals (try exact ([] : List Fp))
    · refine .f1 (.inl rfl) rfl ?_
      unfold takenB
      rw [hd, hat, hcond]
      rfl
    · refine ⟨k + 1, ⟨by omega, ?_⟩, by omega, ?_⟩
      · rw [hd, hat, hcond]
        rfl
      · skip
        refine St.le_of ?_ ?_ <;> (repeat' (first | exact trivial | refine ⟨⟨_, rfl, .refl _⟩, ?_⟩ | refine ⟨⟨_, rfl, .any _⟩, ?_⟩ | refine ⟨⟨_, rfl, .of_eq ?_⟩, ?_⟩ | refine ⟨⟨_, rfl, fun _ _ _ _ h => h⟩, ?_⟩ | fail))
    · exfalso
      simp at hcond
      omega
theorem mask_val (b : Nat) (hb : b ≤ 16) : bits .andNot .i64 65535 (65535 / 2 ^ b) = ((65536 - 2 ^ (16 - b) : Nat) : Int) := by
  have : ∀ b : Fin 17, bits .andNot .i64 65535 (65535 / 2 ^ b.val) = ((65536 - 2 ^ (16 - b.val) : Nat) : Int) := by decide
  exact this ⟨b, by omega⟩
theorem mask_T (b : Nat) (hb : b ≤ 16) : Fun Try.prog 112 [.fv (.int .i64 b)] (.fv (.int .i64 ((65536 - 2 ^ (16 - b) : Nat) : Int))) := by
  have hb64 : (b : Int) ≤ (IntKind.i64).bits := by show (b : Int) ≤ 64; omega
  refine Fun.body tbl_ok Try.func112 rfl (by kernel_rfl) rfl rfl rfl ?_
  repeat' (first
    | (apply Ops.loc; (· rfl); (· rfl); (· rfl); (· first | (exact .eff (.shr rfl rfl (by omega) hb64)) | exact .eff (.mv rfl) | exact .eff (.asg rfl) | exact .eff (.bin rfl rfl rfl)))
    | with_reducible refine WP.seq ?_
    | with_reducible apply WP.reg tbl_ok rfl
    | with_reducible refine Ops.nil ?_
    | with_reducible refine thenQ.nor ?_
    | with_reducible refine WP.ret ?_
    | fail)
  all_goals (try exact ([] : List Fp))
  refine .f1 (.inl rfl) rfl ?_
  rw [Int.toNat_natCast]
  have := mask_val b hb
  congr 1
theorem andNot_mask (a b : Nat) (ha : a ≤ 65535) (hb : b ≤ 16) : bits .andNot .i64 (a : Int) ((65536 - 2 ^ (16 - b) : Nat) : Int) = ((a % 2 ^ (16 - b) : Nat) : Int) := by
  have hm : 65536 - 2 ^ (16 - b) ≤ 65535 := by have := Nat.two_pow_pos (16 - b); omega
  generalize hmm : 65536 - 2 ^ (16 - b) = m at hm
  have e : bits .andNot .i64 (a : Int) (m : Int) = IntKind.i64.wrap ((BitVec.ofInt 64 (a : Int) &&& ~~~ BitVec.ofInt 64 (m : Int)).toNat : Int) := rfl
  have h1 : (BitVec.ofInt 64 (a : Int) &&& ~~~ BitVec.ofInt 64 (m : Int)).toNat = a &&& (2 ^ 64 - (m + 1)) := by
    rw [BitVec.toNat_and, BitVec.toNat_not, ofInt_i64 a (by omega), ofInt_i64 m (by omega)]
    congr 1
    omega
  have h2 : a &&& (2 ^ 64 - (m + 1)) ≤ a := Nat.and_le_left
  rw [e, h1, IntKind.wrap_i64]
  have h3 : a &&& (2 ^ 64 - (m + 1)) = a % 2 ^ (16 - b) := by
    apply Nat.eq_of_testBit_eq
    intro i
    rw [Nat.testBit_and, Nat.testBit_mod_two_pow]
    rcases Nat.lt_or_ge i 16 with hi | hi
    · rw [Nat.testBit_two_pow_sub_succ (by omega), ← hmm]
      have key : ∀ b : Fin 17, ∀ i : Fin 16, (decide (i.val < 64) && !(65536 - 2 ^ (16 - b.val)).testBit i.val) = decide (i.val < 16 - b.val) := by decide
      have := key ⟨b, by omega⟩ ⟨i, hi⟩
      simp only at this
      rw [this, Bool.and_comm]
    · have : a.testBit i = false := Nat.testBit_lt_two_pow (Nat.lt_of_le_of_lt ha (Nat.lt_of_lt_of_le (show 65535 < 2 ^ 16 by omega) (Nat.pow_le_pow_right (by omega) hi)))
      simp [this]
  rw [h3]
  have := Nat.mod_le a (2 ^ (16 - b))
  omega
end Go.Proofs.Ytdbbmjdeeenlhaa

/- What is wanted: what the program says of a thing that comes. -/
namespace Go.Proofs.Ytdbbmjdeeenlhaa
open Go.RowKit
set_option maxRecDepth 100000

theorem addPort1_T (p q : Po) : Fun Try.prog 111 [.agg ((encPo q).map .fv), .fptr (encPo p)] (.fv (.bool (q.id == p.id || (q.sw == p.sw && q.mac == p.mac)))) := by
  refine Fun.body tbl_ok Try.func111 rfl (by kernel_rfl) rfl rfl rfl ?_
  repeat' (first
    | (apply Ops.loc; (· rfl); (· rfl); (· rfl); (· first | exact .eff (.mv rfl) | exact .eff (.asg rfl) | exact .eff (.loadO rfl rfl rfl) | exact .eff (.loadF rfl rfl) | exact .eff (.fldO rfl rfl rfl) | exact .eff (.fldF rfl rfl rfl) | exact .eff (.or rfl rfl rfl) | exact .eff (.bin rfl rfl rfl)))
    | with_reducible refine WP.seq ?_
    | with_reducible apply WP.reg tbl_ok rfl
    | with_reducible refine Ops.nil ?_
    | with_reducible refine thenQ.nor ?_
    | with_reducible refine WP.ret ?_
    | (apply Ops.gst; (· rfl); (· rfl); (· rfl); (· rfl); (· rfl); (· rfl); (· rfl); (· first | exact .b | exact .w); (· intro hc; repeat' (first | exact trivial | exact fun _ => hc | exact fun _ => hc.1 | exact fun _ => ⟨hc.1.1, hc.1.2⟩ | refine And.intro ?_ ?_)); (· intro hc; first | exact .eff (.mvG rfl) | exact .eff (.asg rfl) | exact .eff (.loadO rfl rfl rfl) | exact .eff (.loadF rfl rfl) | exact .eff (.fldO rfl rfl rfl) | exact .eff (.fldF rfl rfl rfl) | exact .eff (.or rfl rfl rfl) | exact .eff (.bin rfl rfl rfl)); (· rfl); (· rfl))
    | (apply Ops.new; (· rfl); (· rfl); (· rfl); (· first | exact .eff (.box rfl) | exact .eff (.alloc rfl) | exact .eff (.bsliceS rfl rfl rfl rfl rfl) | exact .eff (.mkS rfl rfl rfl rfl (by omega) (by omega)) | exact .eff (.zeroS rfl rfl (by intro l hl; first | cases hl | exact ⟨_, by injection hl with hl; subst hl; rfl⟩) rfl rfl rfl)); (· first | rfl | (simp only [freshB, noRefH, OB.cells, refsL_fv, refsL_app]; rfl)))
    | (apply Ops.gand; (· rfl); (· rfl); (· rfl); (· rfl); (· rfl); (· rfl); (· rfl); (· exact (by first | exact .b | exact .w)); (· rfl); (· rfl); (· rfl); (· simp); (· intro hc; first | exact hc | exact hc.1); (· intro hc; exact ⟨fun h => h.2, fun h => ⟨hc, h⟩⟩))
    | fail)
  all_goals (try exact ([] : List Fp))
  exact .f1 (.inl rfl) rfl rfl
set_option maxHeartbeats 2000000 in
theorem addSwitch_T (c : Cf) (s : Sw) (hl : c.Small) (hw : c.Wf) (hn : c.ss.length ≤ 12) : Fun Try.prog 61 [.agg ((encCf c).map .fv), .agg ((encSw s).map .fv)] (.fv (.int .i64 (swFault c s))) := by
  have hl1 := hl.1
  have hix := idxB_any (fun x : Sw => x.id == s.id) c.ss
  have hsec : 0 ≤ s.gate → ((decide (idxB (fun x : Sw => x.id == s.id) c.ss ≥ 0) || (s.gate != 0 && takenB c s.tenant s.gate)) = true ↔ (c.ss.any (fun x => x.id == s.id) = true ∨ (0 < s.gate ∧ takenB c s.tenant s.gate = true))) := fun hg => by
    rw [Bool.or_eq_true, decide_eq_true_iff, Bool.and_eq_true, bne_iff_ne]
    refine or_congr ?_ (and_congr (by omega) Iff.rfl)
    rw [← Bool.not_eq_false, ← hix]
    omega
  refine Fun.body tbl_ok Try.func61 rfl (by kernel_rfl) rfl rfl rfl ?_
  repeat' (first
    | (apply Ops.loc; (· rfl); (· rfl); (· rfl); (· first | exact .eff (.mv rfl) | exact .eff (.asg rfl) | exact .eff (.loadO rfl rfl rfl) | exact .eff (.fldO rfl rfl rfl) | exact .eff (.lenF rfl rfl) | exact .eff (.or rfl rfl rfl) | exact .eff (.not rfl) | exact .eff (.bin rfl rfl rfl) | exact .callL rfl rfl rfl (by first | exact within_T _ _ _ | exact place_T c _ hl1 | exact taken_T c _ _ hl hw) rfl))
    | with_reducible refine WP.seq ?_
    | with_reducible apply WP.reg tbl_ok rfl
    | with_reducible refine Ops.nil ?_
    | with_reducible refine thenQ.nor ?_
    | with_reducible refine thenQ.ret ?_
    | with_reducible refine blockQ.nor ?_
    | with_reducible refine blockQ.ret ?_
    | with_reducible refine WP.block ?_
    | with_reducible refine WP.skip ?_
    | with_reducible refine WP.ret ?_
    | (refine WP.cond rfl ?_ ?_ <;> intro hcond)
    | (apply Ops.gst; (· rfl); (· rfl); (· rfl); (· rfl); (· rfl); (· rfl); (· rfl); (· first | exact .b | exact .w); (· intro hc; repeat' (first | exact trivial | exact fun _ => hc | exact fun _ => hc.1 | exact fun _ => ⟨hc.1.1, hc.1.2⟩ | refine And.intro ?_ ?_)); (· intro hc; first | exact .eff (.mvG rfl) | exact .eff (.asg rfl) | exact .eff (.loadO rfl rfl rfl) | exact .eff (.fldO rfl rfl rfl) | exact .eff (.lenF rfl rfl) | exact .eff (.or rfl rfl rfl) | exact .eff (.not rfl) | exact .eff (.bin rfl rfl rfl) | exact .callG rfl rfl rfl (by first | exact within_T _ _ _ | exact place_T c _ hl1 | exact taken_T c _ _ hl hw) rfl); (· rfl); (· rfl))
    | (apply Ops.new; (· rfl); (· rfl); (· rfl); (· first | exact .eff (.box rfl) | exact .eff (.alloc rfl) | exact .eff (.bsliceS rfl rfl rfl rfl rfl) | exact .eff (.mkS rfl rfl rfl rfl (by omega) (by omega)) | exact .eff (.zeroS rfl rfl (by intro l hl; first | cases hl | exact ⟨_, by injection hl with hl; subst hl; rfl⟩) rfl rfl rfl)); (· first | rfl | (simp only [freshB, noRefH, OB.cells, refsL_fv, refsL_app]; rfl)))
    | (apply Ops.gand; (· rfl); (· rfl); (· rfl); (· rfl); (· rfl); (· rfl); (· rfl); (· exact (by first | exact .b | exact .w)); (· rfl); (· rfl); (· rfl); (· simp); (· intro hc; first | exact hc | exact hc.1); (· intro hc; exact ⟨fun h => h.2, fun h => ⟨hc, h⟩⟩))
    | fail)
  all_goals (try exact ([] : List Fp))
  · refine .f1 (.inl rfl) rfl ?_
    rw [swFault, if_pos (by simpa [or_assoc] using hcond)]
  · refine .f1 (.inl rfl) rfl ?_
    rename_i h1
    have h1 : ¬ (inR s.id 1 500 = false ∨ inR s.tenant 1 9 = false ∨ inR s.gate 0 65535 = false) := by simpa [and_assoc] using h1
    have hg : 0 ≤ s.gate := (inR_iff.1 (show inR s.gate 0 65535 = true by simp at h1; exact h1.2.2)).1
    rw [swFault, if_neg h1, if_pos ((hsec hg).1 hcond)]
  · refine .f1 (.inl rfl) rfl ?_
    rename_i h1 h2
    have h1 : ¬ (inR s.id 1 500 = false ∨ inR s.tenant 1 9 = false ∨ inR s.gate 0 65535 = false) := by simpa [and_assoc] using h1
    have hg : 0 ≤ s.gate := (inR_iff.1 (show inR s.gate 0 65535 = true by simp at h1; exact h1.2.2)).1
    rw [swFault, if_neg h1, if_neg (fun h => by rw [(hsec hg).2 h] at h2; cases h2), if_pos (by simp at hcond; omega)]
  · refine .f1 (.inl rfl) rfl ?_
    rename_i h1 h2
    have h1 : ¬ (inR s.id 1 500 = false ∨ inR s.tenant 1 9 = false ∨ inR s.gate 0 65535 = false) := by simpa [and_assoc] using h1
    have hg : 0 ≤ s.gate := (inR_iff.1 (show inR s.gate 0 65535 = true by simp at h1; exact h1.2.2)).1
    rw [swFault, if_neg h1, if_neg (fun h => by rw [(hsec hg).2 h] at h2; cases h2), if_neg (by simp at hcond; omega)]
set_option maxHeartbeats 2000000 in
theorem addPort_T (c : Cf) (p : Po) (hl : c.Small) (hw : c.Wf) (hn : c.ps.length ≤ 40) : Fun Try.prog 62 [.agg ((encCf c).map .fv), .agg ((encPo p).map .fv)] (.fv (.int .i64 (poFault c p))) := by
  have hl1 := hl.1
  have hix := idxB_any (fun x : Sw => x.id == p.sw) c.ss
  have hpl := place_T c p.sw hl1
  have hr : ∀ {b : Bool}, (!inR p.id 1 999 || !inR p.mac 1 59999 || !inR p.ip 1 65535 || !inR p.ch (-1) 5) = false → ¬ (inR p.id 1 999 = false ∨ inR p.mac 1 59999 = false ∨ inR p.ip 1 65535 = false ∨ inR p.ch (-1) 5 = false) := fun {_} h => by simpa [and_assoc] using h
  refine Fun.body tbl_ok Try.func62 rfl (by kernel_rfl) rfl rfl rfl ?_
  cases hany : c.ss.any (fun x => x.id == p.sw) with
  | false =>
    have : idxB (fun x : Sw => x.id == p.sw) c.ss = -1 := by
      have := idxB_ge (fun x : Sw => x.id == p.sw) c.ss
      have := hix.2 hany
      omega
    rw [this] at hpl
    repeat' (first
      | (apply Ops.loc; (· rfl); (· rfl); (· rfl); (· first | exact .eff (.mv rfl) | exact .eff (.asg rfl) | exact .eff (.loadO rfl rfl rfl) | exact .eff (.fldO rfl rfl rfl) | exact .eff (.or rfl rfl rfl) | exact .eff (.not rfl) | exact .eff (.bin rfl rfl rfl) | exact .callL rfl rfl rfl (by first | exact within_T _ _ _ | exact hpl) rfl))
      | with_reducible refine WP.seq ?_
      | with_reducible apply WP.reg tbl_ok rfl
      | with_reducible refine Ops.nil ?_
      | with_reducible refine thenQ.nor ?_
      | with_reducible refine thenQ.ret ?_
      | with_reducible refine blockQ.ret ?_
      | with_reducible refine WP.block ?_
      | with_reducible refine WP.skip ?_
      | with_reducible refine WP.ret ?_
      | refine WP.condT rfl ?_
      | (refine WP.cond rfl ?_ ?_ <;> intro hcond)
      | (apply Ops.gst; (· rfl); (· rfl); (· rfl); (· rfl); (· rfl); (· rfl); (· rfl); (· first | exact .b | exact .w); (· intro hc; repeat' (first | exact trivial | exact fun _ => hc | exact fun _ => hc.1 | exact fun _ => ⟨hc.1.1, hc.1.2⟩ | refine And.intro ?_ ?_)); (· intro hc; first | exact .eff (.asg rfl) | exact .eff (.loadO rfl rfl rfl) | exact .eff (.fldO rfl rfl rfl) | exact .eff (.or rfl rfl rfl) | exact .eff (.not rfl) | exact .eff (.bin rfl rfl rfl) | exact .callG rfl rfl rfl (by first | exact within_T _ _ _ | exact hpl) rfl); (· rfl); (· rfl))
      | (apply Ops.new; (· rfl); (· rfl); (· rfl); (· first | exact .eff (.box rfl) | exact .eff (.alloc rfl) | exact .eff (.bsliceS rfl rfl rfl rfl rfl) | exact .eff (.mkS rfl rfl rfl rfl (by omega) (by omega)) | exact .eff (.zeroS rfl rfl (by intro l hl; first | cases hl | exact ⟨_, by injection hl with hl; subst hl; rfl⟩) rfl rfl rfl)); (· first | rfl | (simp only [freshB, noRefH, OB.cells, refsL_fv, refsL_app]; rfl)))
      | fail)
    all_goals (try exact ([] : List Fp))
    · refine .f1 (.inl rfl) rfl ?_
      rw [poFault, if_pos (by simpa [or_assoc] using hcond)]
    · refine .f1 (.inl rfl) rfl ?_
      rw [poFault, if_neg (hr (b := true) (by assumption)), if_pos hany]
  | true =>
    obtain ⟨k, hk⟩ := idxB_some hany
    obtain ⟨x, hx, ht⟩ := tenantAt_at hk
    rw [hk] at hpl
    have hnf : ¬ (c.ss.any (fun x => x.id == p.sw) = false) := by rw [hany]; simp
    repeat' (first
      | (apply Ops.loc; (· rfl); (· rfl); (· rfl); (· first | (exact .eff (.idxS rfl rfl rfl encSw_len hx)) | exact .eff (.mv rfl) | exact .eff (.asg rfl) | exact .eff (.loadO rfl rfl rfl) | exact .eff (.loadF rfl rfl) | exact .eff (.fldO rfl rfl rfl) | exact .eff (.fldF rfl rfl rfl) | exact .eff (.lenF rfl rfl) | exact .eff (.or rfl rfl rfl) | exact .eff (.not rfl) | exact .eff (.bin rfl rfl rfl) | exact .eff (.mkFn) | exact .callL rfl rfl rfl (by first | exact within_T _ _ _ | exact hpl | exact containsPo_T c.ps _ [.fptr (encPo p)] (fun q => q.id == p.id || (q.sw == p.sw && q.mac == p.mac)) hl.2.1 (fun q _ => addPort1_T p q) | exact taken_T c _ _ hl hw) rfl | (apply LEff.callBL; (· rfl); (· rfl); (· exact containsPo_T c.ps _ [.fptr (encPo p)] (fun q => q.id == p.id || (q.sw == p.sw && q.mac == p.mac)) hl.2.1 (fun q _ => addPort1_T p q)); (· skip; repeat' (first | exact .nil | refine .cons ?_ ?_ | exact .le (.refl _) | exact .row rfl | exact .box rfl | exact .cut rfl (by omega) | exact .le .nil | refine .agg ?_ | refine .fn ?_ | fail)); (· rfl))))
      | with_reducible refine WP.seq ?_
      | with_reducible apply WP.reg tbl_ok rfl
      | with_reducible refine Ops.nil ?_
      | with_reducible refine thenQ.nor ?_
      | with_reducible refine thenQ.ret ?_
      | with_reducible refine blockQ.nor ?_
      | with_reducible refine blockQ.ret ?_
      | with_reducible refine WP.block ?_
      | with_reducible refine WP.skip ?_
      | with_reducible refine WP.ret ?_
      | refine WP.condF rfl ?_
      | (refine WP.cond rfl ?_ ?_ <;> intro hcond)
      | (apply Ops.gst; (· rfl); (· rfl); (· rfl); (· rfl); (· rfl); (· rfl); (· rfl); (· first | exact .b | exact .w); (· intro hc; repeat' (first | exact trivial | exact fun _ => hc | exact fun _ => hc.1 | exact fun _ => ⟨hc.1.1, hc.1.2⟩ | refine And.intro ?_ ?_)); (· intro hc; first | (exact .eff (.idxS rfl rfl rfl encSw_len hx)) | exact .eff (.asg rfl) | exact .eff (.loadO rfl rfl rfl) | exact .eff (.loadF rfl rfl) | exact .eff (.fldO rfl rfl rfl) | exact .eff (.fldF rfl rfl rfl) | exact .eff (.lenF rfl rfl) | exact .eff (.or rfl rfl rfl) | exact .eff (.not rfl) | exact .eff (.bin rfl rfl rfl) | exact .eff (.mkFn) | exact .callG rfl rfl rfl (by first | exact within_T _ _ _ | exact hpl | exact containsPo_T c.ps _ [.fptr (encPo p)] (fun q => q.id == p.id || (q.sw == p.sw && q.mac == p.mac)) hl.2.1 (fun q _ => addPort1_T p q) | exact taken_T c _ _ hl hw) rfl); (· rfl); (· rfl))
      | (apply Ops.new; (· rfl); (· rfl); (· rfl); (· first | exact .eff (.box rfl) | exact .eff (.alloc rfl) | exact .eff (.bsliceS rfl rfl rfl rfl rfl) | exact .eff (.mkS rfl rfl rfl rfl (by omega) (by omega)) | exact .eff (.zeroS rfl rfl (by intro l hl; first | cases hl | exact ⟨_, by injection hl with hl; subst hl; rfl⟩) rfl rfl rfl)); (· first | rfl | (simp only [freshB, noRefH, OB.cells, refsL_fv, refsL_app]; rfl)))
      | apply WP.drwL tbl_ok mixed_no rfl
      | ((with_reducible apply drwK.mk); (· kernel_rfl); (· first | rfl | (simp only [freeF, List.all_cons, List.all_nil, noRefH, OB.cells, refsL_fv, refsL_app]; rfl)))
      | fail)
    all_goals (try exact ([] : List Fp))
    · refine .f1 (.inl rfl) rfl ?_
      rw [poFault, if_pos (by simpa [or_assoc] using hcond)]
    · refine .f1 (.inl rfl) rfl ?_
      rw [poFault, if_neg (hr (b := true) (by assumption)), if_neg hnf, if_pos hcond]
    · refine .f1 (.inl rfl) rfl ?_
      rename_i h2
      rw [poFault, if_neg (hr (b := true) (by assumption)), if_neg hnf, if_neg (fun h => by rw [h] at h2; cases h2), ht, if_pos hcond]
    · refine .f1 (.inl rfl) rfl ?_
      rename_i h2 h3
      rw [poFault, if_neg (hr (b := true) (by assumption)), if_neg hnf, if_neg (fun h => by rw [h] at h2; cases h2), ht, if_neg (fun h => by rw [h] at h3; cases h3), if_pos (by simp at hcond; omega)]
    · refine .f1 (.inl rfl) rfl ?_
      rename_i h2 h3
      rw [poFault, if_neg (hr (b := true) (by assumption)), if_neg hnf, if_neg (fun h => by rw [h] at h2; cases h2), ht, if_neg (fun h => by rw [h] at h3; cases h3), if_neg (by simp at hcond; omega)]
theorem unitOf_nat (b : Nat) : unitOf (b : Int) = ((2 ^ (16 - b) : Nat) : Int) := by
  unfold unitOf
  rw [Int.toNat_natCast]
  simp
set_option maxHeartbeats 4000000 in
theorem addAcl_T (c : Cf) (a : Ac) (hl : c.Small) (hn : c.acs.length ≤ 40) : Fun Try.prog 63 [.agg ((encCf c).map .fv), .agg ((encAc a).map .fv)] (.fv (.int .i64 (acFault c a))) := by
  have hl1 := hl.1
  have hix := idxB_any (fun x : Sw => x.id == a.sw) c.ss
  have hpl := place_T c a.sw hl1
  refine Fun.body tbl_ok Try.func63 rfl (by kernel_rfl) rfl rfl rfl ?_
  repeat' (first
    | (apply Ops.loc; (· rfl); (· rfl); (· rfl); (· first | exact .eff (.mv rfl) | exact .eff (.asg rfl) | exact .eff (.loadO rfl rfl rfl) | exact .eff (.fldO rfl rfl rfl) | exact .eff (.or rfl rfl rfl) | exact .eff (.not rfl) | exact .callL rfl rfl rfl (by first | exact within_T _ _ _) rfl))
    | with_reducible refine WP.seq ?_
    | with_reducible apply WP.reg tbl_ok rfl
    | with_reducible refine Ops.nil ?_
    | with_reducible refine thenQ.nor ?_
    | with_reducible refine thenQ.ret ?_
    | with_reducible refine blockQ.ret ?_
    | with_reducible refine WP.block ?_
    | with_reducible refine WP.ret ?_
    | (refine WP.cond rfl ?_ ?_ <;> intro hcond)
    | (apply Ops.gst; (· rfl); (· rfl); (· rfl); (· rfl); (· rfl); (· rfl); (· rfl); (· first | exact .b | exact .w); (· intro hc; repeat' (first | exact trivial | exact fun _ => hc | exact fun _ => hc.1 | exact fun _ => ⟨hc.1.1, hc.1.2⟩ | refine And.intro ?_ ?_)); (· intro hc; first | exact .eff (.asg rfl) | exact .eff (.loadO rfl rfl rfl) | exact .eff (.fldO rfl rfl rfl) | exact .eff (.or rfl rfl rfl) | exact .eff (.not rfl) | exact .callG rfl rfl rfl (by first | exact within_T _ _ _) rfl); (· rfl); (· rfl))
    | (apply Ops.new; (· rfl); (· rfl); (· rfl); (· first | exact .eff (.box rfl) | exact .eff (.alloc rfl) | exact .eff (.bsliceS rfl rfl rfl rfl rfl) | exact .eff (.mkS rfl rfl rfl rfl (by omega) (by omega)) | exact .eff (.zeroS rfl rfl (by intro l hl; first | cases hl | exact ⟨_, by injection hl with hl; subst hl; rfl⟩) rfl rfl rfl)); (· first | rfl | (simp only [freshB, noRefH, OB.cells, refsL_fv, refsL_app]; rfl)))
    | fail)
  all_goals (try exact ([] : List Fp))
  · refine .f1 (.inl rfl) rfl ?_
    rw [acFault, if_pos (by simpa [or_assoc] using hcond)]
  have h1 : ¬ (inR a.prio 0 1000 = false ∨ inR a.src 0 65535 = false ∨ inR a.dst 0 65535 = false ∨ inR a.srcBits 0 16 = false ∨ inR a.dstBits 0 16 = false ∨ inR a.port (-1) 65535 = false) := by simpa [and_assoc] using hcond
  have g1 := inR_iff.1 (show inR a.src 0 65535 = true by simp_all)
  have g2 := inR_iff.1 (show inR a.dst 0 65535 = true by simp_all)
  have g3 := inR_iff.1 (show inR a.srcBits 0 16 = true by simp_all)
  have g4 := inR_iff.1 (show inR a.dstBits 0 16 = true by simp_all)
  obtain ⟨sb, hsb⟩ := Int.eq_ofNat_of_zero_le g3.1
  obtain ⟨db, hdb⟩ := Int.eq_ofNat_of_zero_le g4.1
  obtain ⟨sr, hsr⟩ := Int.eq_ofNat_of_zero_le g1.1
  obtain ⟨ds, hds⟩ := Int.eq_ofNat_of_zero_le g2.1
  have m1 := mask_T sb (by omega)
  have m2 := mask_T db (by omega)
  rw [← hsb] at m1
  rw [← hdb] at m2
  have n1 := andNot_mask sr sb (by omega) (by omega)
  have n2 := andNot_mask ds db (by omega) (by omega)
  rw [← hsr] at n1
  rw [← hds] at n2
  have hsec : (bits .andNot .i64 a.src ((65536 - 2 ^ (16 - sb) : Nat) : Int) != 0 || bits .andNot .i64 a.dst ((65536 - 2 ^ (16 - db) : Nat) : Int) != 0) = true ↔ (a.src % unitOf a.srcBits ≠ 0 ∨ a.dst % unitOf a.dstBits ≠ 0) := by
    rw [n1, n2, hsb, hdb, unitOf_nat, unitOf_nat, hsr, hds, Bool.or_eq_true, bne_iff_ne, bne_iff_ne, Int.natCast_emod, Int.natCast_emod]
  clear hcond
  repeat' (first
    | (apply Ops.loc; (· rfl); (· rfl); (· rfl); (· first | exact .eff (.mv rfl) | exact .eff (.asg rfl) | exact .eff (.loadO rfl rfl rfl) | exact .eff (.fldO rfl rfl rfl) | exact .eff (.lenF rfl rfl) | exact .eff (.or rfl rfl rfl) | exact .eff (.bin rfl rfl rfl) | exact .callL rfl rfl rfl (by first | exact m1 | exact m2 | exact hpl) rfl))
    | with_reducible refine WP.seq ?_
    | with_reducible apply WP.reg tbl_ok rfl
    | with_reducible refine Ops.nil ?_
    | with_reducible refine thenQ.nor ?_
    | with_reducible refine thenQ.ret ?_
    | with_reducible refine blockQ.nor ?_
    | with_reducible refine blockQ.ret ?_
    | with_reducible refine WP.skip ?_
    | with_reducible refine WP.ret ?_
    | (refine WP.cond rfl ?_ ?_ <;> intro hcond)
    | (apply Ops.gst; (· rfl); (· rfl); (· rfl); (· rfl); (· rfl); (· rfl); (· rfl); (· first | exact .b | exact .w); (· intro hc; repeat' (first | exact trivial | exact fun _ => hc | exact fun _ => hc.1 | exact fun _ => ⟨hc.1.1, hc.1.2⟩ | refine And.intro ?_ ?_)); (· intro hc; first | exact .eff (.asg rfl) | exact .eff (.loadO rfl rfl rfl) | exact .eff (.fldO rfl rfl rfl) | exact .eff (.lenF rfl rfl) | exact .eff (.or rfl rfl rfl) | exact .eff (.bin rfl rfl rfl) | exact .callG rfl rfl rfl (by first | exact m1 | exact m2 | exact hpl) rfl); (· rfl); (· rfl))
    | apply WP.drwL tbl_ok mixed_no rfl
    | ((with_reducible apply drwK.mk); (· kernel_rfl); (· first | rfl | (simp only [freeF, List.all_cons, List.all_nil, noRefH, OB.cells, refsL_fv, refsL_app]; rfl)))
    | fail)
  all_goals (try exact ([] : List Fp))
  · refine .f1 (.inl rfl) rfl ?_
    rw [acFault, if_neg h1, if_pos (hsec.1 hcond)]
  · refine .f1 (.inl rfl) rfl ?_
    rename_i h2
    rw [acFault, if_neg h1, if_neg (fun h => by rw [hsec.2 h] at h2; cases h2), if_pos (hix.1 (by simpa using hcond))]
  · refine .f1 (.inl rfl) rfl ?_
    rename_i h2 h3
    have h3 : ¬ (c.ss.any (fun x => x.id == a.sw) = false) := fun h => by simp at h3; have := hix.2 h; omega
    rw [acFault, if_neg h1, if_neg (fun h => by rw [hsec.2 h] at h2; cases h2), if_neg h3, if_pos (by simp at hcond; omega)]
  · refine .f1 (.inl rfl) rfl ?_
    rename_i h2 h3
    have h3 : ¬ (c.ss.any (fun x => x.id == a.sw) = false) := fun h => by simp at h3; have := hix.2 h; omega
    rw [acFault, if_neg h1, if_neg (fun h => by rw [hsec.2 h] at h2; cases h2), if_neg h3, if_neg (by simp at hcond; omega)]
end Go.Proofs.Ytdbbmjdeeenlhaa
