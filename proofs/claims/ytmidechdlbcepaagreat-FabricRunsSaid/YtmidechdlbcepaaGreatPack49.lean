import Derived.Test.YtmidechdlbcepaaGreatPack14
import Derived.Test.YtmidechdlbcepaaGreatPack48
set_option linter.unusedSimpArgs false
set_option linter.unusedVariables false
namespace Go.Proofs.YtmidechdlbcepaaGreat
open Go.RowKit
set_option maxRecDepth 100000
def swLeaves : List Leaf := [.int, .int, .int]
theorem sw_of_ok {H : Type} {enc : TypeId × Value → H} {P : Program} {w : World} {base : Nat} {spare : Nat → Bool} {held : Bool} {Cl : TypeId → DataW H → Prop} {cs : List Value} (h : AllOk enc P w base spare held Cl swLeaves cs) : ∃ x : Sw, cs = x.cells ∧ x.Ok := by
  match cs, h.length with
  | [c0, c1, c2], _ =>
    obtain ⟨⟨a0, rfl, b0⟩, ⟨a1, rfl, b1⟩, ⟨a2, rfl, b2⟩, _⟩ := h
    exact ⟨⟨a0, a1, a2⟩, rfl, b0, b1, b2⟩
def poLeaves : List Leaf := [.int, .int, .int, .int, .int]
theorem po_of_ok {H : Type} {enc : TypeId × Value → H} {P : Program} {w : World} {base : Nat} {spare : Nat → Bool} {held : Bool} {Cl : TypeId → DataW H → Prop} {cs : List Value} (h : AllOk enc P w base spare held Cl poLeaves cs) : ∃ x : Po, cs = x.cells ∧ x.Ok := by
  match cs, h.length with
  | [c0, c1, c2, c3, c4], _ =>
    obtain ⟨⟨a0, rfl, b0⟩, ⟨a1, rfl, b1⟩, ⟨a2, rfl, b2⟩, ⟨a3, rfl, b3⟩, ⟨a4, rfl, b4⟩, _⟩ := h
    exact ⟨⟨a0, a1, a2, a3, a4⟩, rfl, b0, b1, b2, b3, b4⟩
def acLeaves : List Leaf := [.int, .int, .bool, .int, .int, .int, .int, .int, .bool]
theorem ac_of_ok {H : Type} {enc : TypeId × Value → H} {P : Program} {w : World} {base : Nat} {spare : Nat → Bool} {held : Bool} {Cl : TypeId → DataW H → Prop} {cs : List Value} (h : AllOk enc P w base spare held Cl acLeaves cs) : ∃ x : Ac, cs = x.cells ∧ x.Ok := by
  match cs, h.length with
  | [c0, c1, c2, c3, c4, c5, c6, c7, c8], _ =>
    obtain ⟨⟨a0, rfl, b0⟩, ⟨a1, rfl, b1⟩, ⟨a2, rfl⟩, ⟨a3, rfl, b3⟩, ⟨a4, rfl, b4⟩, ⟨a5, rfl, b5⟩, ⟨a6, rfl, b6⟩, ⟨a7, rfl, b7⟩, ⟨a8, rfl⟩, _⟩ := h
    exact ⟨⟨a0, a1, a2, a3, a4, a5, a6, a7, a8⟩, rfl, b0, b1, b3, b4, b5, b6, b7⟩
end Go.Proofs.YtmidechdlbcepaaGreat