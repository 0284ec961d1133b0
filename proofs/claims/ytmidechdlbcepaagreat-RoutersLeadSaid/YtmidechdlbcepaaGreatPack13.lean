import Derived.Test.YtmidechdlbcepaaGreatPack08
import Derived.Test.YtmidechdlbcepaaGreatPack07
set_option linter.unusedSimpArgs false
set_option linter.unusedVariables false
namespace Go.Proofs.YtmidechdlbcepaaGreat
open Go.ChangeShapes Go.WideShapes Go.ChangeAt Go.RowKit Go.Deep

def Rd (w : World) (S : Nat → Prop) (A : Option Addr) (xs : List Value) : Prop :=
  xs ≠ [] → ∃ b off, A = some ⟨b, off, none⟩ ∧ S b ∧ ∀ (j : Nat) (u : Value), xs[j]? = some u → w.cell? ⟨b, off + j, none⟩ = some u

section
variable {w w' : World} {S S' : Nat → Prop} {A : Option Addr} {xs : List Value}
theorem Rd.nil (A : Option Addr) : Rd w S A [] := fun h => absurd rfl h
theorem Rd.keep (h : Rd w S A xs) (hk : ∀ b, S b → w'.heap[b]? = w.heap[b]?) (hS : ∀ b, S b → S' b) : Rd w' S' A xs := fun hn => by
  obtain ⟨b, off, e, hb, hc⟩ := h hn
  exact ⟨b, off, e, hS b hb, fun j u hu => by
    have : w'.cell? ⟨b, off + j, none⟩ = w.cell? ⟨b, off + j, none⟩ := World.cell?_of_block (w := w) (hk b hb)
    rw [this]
    exact hc j u hu⟩
theorem Rd.src (h : Rd w S A xs) (n : Nat) (hn : 0 < n → xs ≠ []) : Src w A n xs := fun h0 => by
  obtain ⟨b, off, e, _, hc⟩ := h (hn h0)
  exact ⟨b, off, e, hc⟩
end

section
variable {H : Type} {enc : TypeId × Value → H} {P : Program} {w : World} {base : Nat} {spare : Nat → Bool} {held : Bool} {Cl : TypeId → DataW H → Prop}
end
end Go.Proofs.YtmidechdlbcepaaGreat
