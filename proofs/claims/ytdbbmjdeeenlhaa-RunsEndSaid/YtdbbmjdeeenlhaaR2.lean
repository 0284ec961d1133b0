/- Flows, frames and packets that came in, as data by value. -/
import Derived.Test.YtdbbmjdeeenlhaaR1
import Derived.Test.YtdbbmjdeeenlhaaLeaves
namespace Go.Proofs.Ytdbbmjdeeenlhaa
open Go.ChangeShapes Go.WideShapes Go.ChangeAt Go.RowKit Go.Deep
set_option maxRecDepth 100000

def Mx.Ok (m : Mx) : Prop := I64 m.field ∧ I64 m.mask ∧ I64 m.value
def Dx.Ok (d : Dx) : Prop := I64 d.kind ∧ I64 d.a ∧ I64 d.n
def Fl.Ok (f : Fl) : Prop := I64 f.table ∧ I64 f.prio ∧ (∀ x ∈ f.ms, x.Ok) ∧ (∀ x ∈ f.ds, x.Ok) ∧ f.ms.length * 24 ≤ reachBytes ∧ f.ds.length * 24 ≤ reachBytes
def leaves3 : List Leaf := [.int, .int, .int]
def flLeaves : List Leaf := [.int, .int, .slice 31, .slice 34]
theorem mtx_leaves : leaves Try.prog 2 30 = some leaves3 := by kernel_rfl
theorem dsx_leaves : leaves Try.prog 2 33 = some leaves3 := by kernel_rfl
theorem fl_leaves : leaves Try.prog 2 36 = some flLeaves := by kernel_rfl
theorem mtx_cellsOf : Try.prog.cellsOf 30 = 3 := by kernel_rfl
theorem dsx_cellsOf : Try.prog.cellsOf 33 = 3 := by kernel_rfl
theorem fl_cellsOf : Try.prog.cellsOf 36 = 4 := by kernel_rfl
theorem mtx_bytes : Try.prog.bytesOf 30 = 24 := by kernel_rfl
theorem dsx_bytes : Try.prog.bytesOf 33 = 24 := by kernel_rfl
theorem fl_bytes : Try.prog.bytesOf 36 = 64 := by kernel_rfl

section
variable {H : Type} {enc : TypeId × Value → H} {P : Program} {w : World} {base : Nat} {spare : Nat → Bool} {held : Bool} {Cl : TypeId → DataW H → Prop}
theorem mtx_rep {cs : List Value} (h : AllOk enc P w base spare held Cl leaves3 cs) : ∃ m : Mx, m.Ok ∧ RepF w (encMx m) cs := by
  match cs, h.length with
  | [c0, c1, c2], _ =>
    obtain ⟨⟨a0, rfl, b0⟩, ⟨a1, rfl, b1⟩, ⟨a2, rfl, b2⟩, _⟩ := h
    exact ⟨⟨a0, a1, a2⟩, ⟨b0, b1, b2⟩, fun _ => ⟨rfl, rfl, rfl, trivial⟩⟩
theorem dsx_rep {cs : List Value} (h : AllOk enc P w base spare held Cl leaves3 cs) : ∃ m : Dx, m.Ok ∧ RepF w (encDx m) cs := by
  match cs, h.length with
  | [c0, c1, c2], _ =>
    obtain ⟨⟨a0, rfl, b0⟩, ⟨a1, rfl, b1⟩, ⟨a2, rfl, b2⟩, _⟩ := h
    exact ⟨⟨a0, a1, a2⟩, ⟨b0, b1, b2⟩, fun _ => ⟨rfl, rfl, rfl, trivial⟩⟩
theorem fl_rep {cs : List Value} (h : AllOk enc Try.prog w base spare held (SizedCl Try.prog) flLeaves cs) : ∃ f : Fl, f.Ok ∧ RepF w (encFl f) cs := by
  match cs, h.length with
  | [c0, c1, c2, c3], _ =>
    obtain ⟨⟨a0, rfl, b0⟩, ⟨a1, rfl, b1⟩, l2, l3, _⟩ := h
    obtain ⟨ms, o2, n2, r2⟩ := open_sl Try.underlying31 mtx_leaves mtx_cellsOf rfl (by omega) mtx_bytes (fun _ h => mtx_rep h) l2
    obtain ⟨ds, o3, n3, r3⟩ := open_sl Try.underlying34 dsx_leaves dsx_cellsOf rfl (by omega) dsx_bytes (fun _ h => dsx_rep h) l3
    exact ⟨⟨a0, a1, ms, ds⟩, ⟨b0, b1, o2, o3, n2, n3⟩, repF_cons rfl (repF_cons rfl (repF_cons r2 (repF_cons r3 repF_nil)))⟩
theorem open_flows {v : Value} {d : DataW H} {p : List MemPlace} {r : Reach} {b0 : Nat} (hv : Value.okWide Try.prog w r b0 37 v) (h : DataW.Trod enc Try.prog w base spare held 37 v d p) (hs : SizedCl Try.prog 37 d) :
    ∃ l : List Fl, (∀ x ∈ l, x.Ok) ∧ l.length * 64 ≤ reachBytes ∧ (slOf encFl l).Rep (fun b => b < w.heap.size) w v :=
  open_sl_arg Try.underlying37 fl_leaves fl_cellsOf rfl (by omega) fl_bytes (fun _ h => fl_rep h) hv h hs
theorem fr_repF {f : Fr} (h : f.Ok) : RepF w (encFr f) f.cells := fun _ => ⟨rfl, rfl, rfl, rfl, rfl, rfl, rfl, ⟨rfl, h.2.2.2.2.2.2.2⟩, trivial⟩
theorem pk_repF {f : Pk} (h : f.Ok) : RepF w (encPk f) f.cells := fun _ => ⟨rfl, rfl, rfl, rfl, rfl, rfl, rfl, rfl, rfl, rfl, ⟨rfl, h.2.2.2.2.2.2.2.2.2.2⟩, trivial⟩
end
end Go.Proofs.Ytdbbmjdeeenlhaa
