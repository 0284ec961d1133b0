import Derived.Test.YtmidechdlbcepaaGreatPack08
set_option linter.unusedSimpArgs false
set_option linter.unusedVariables false
namespace Go.Proofs.YtmidechdlbcepaaGreat
open Go.ChangeShapes Go.WideShapes Go.ChangeAt Go.RowKit Go.Deep
section
variable {H : Type} (enc : TypeId × Value → H) (P : Program) (w : World) (base : Nat) (spare : Nat → Bool) (held : Bool) (Cl : TypeId → DataW H → Prop)

variable {enc P w base spare held Cl}
def frameLeaves : List Leaf := [.int, .int, .int, .int, .int, .int, .int, .str]
theorem fr_of_ok {cs : List Value} (h : AllOk enc P w base spare held Cl frameLeaves cs) : ∃ f : Fr, cs = f.cells ∧ f.Ok := by
  match cs, h.length with
  | [c0, c1, c2, c3, c4, c5, c6, c7], _ =>
    obtain ⟨⟨a0, rfl, b0⟩, ⟨a1, rfl, b1⟩, ⟨a2, rfl, b2⟩, ⟨a3, rfl, b3⟩, ⟨a4, rfl, b4⟩, ⟨a5, rfl, b5⟩, ⟨a6, rfl, b6⟩, ⟨s, rfl, b7, _⟩, _⟩ := h
    exact ⟨⟨a0, a1, a2, a3, a4, a5, a6, s⟩, rfl, b0, b1, b2, b3, b4, b5, b6, b7⟩
end
end Go.Proofs.YtmidechdlbcepaaGreat