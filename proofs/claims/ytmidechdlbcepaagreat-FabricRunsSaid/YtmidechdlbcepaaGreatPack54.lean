import Derived.Test.YtmidechdlbcepaaGreatPack53
set_option linter.unusedSimpArgs false
set_option linter.unusedVariables false
namespace Go.Proofs.YtmidechdlbcepaaGreat
open Go.ChangeShapes Go.WideShapes Go.ChangeAt Go.RowKit Go.Deep
set_option maxRecDepth 100000
def actLeaves : List Leaf := [.int] ++ (swLeaves ++ (poLeaves ++ (acLeaves ++ ([.int, .int] ++ frameLeaves))))
theorem act_leaves : leaves Tryz.prog 3 74 = some actLeaves := by kernel_rfl
section
variable {H : Type} {enc : TypeId × Value → H} {P : Program} {w : World} {base : Nat} {spare : Nat → Bool} {held : Bool} {Cl : TypeId → DataW H → Prop}
theorem AllOk.split {ls ms : List Leaf} : ∀ {vs : List Value}, AllOk enc P w base spare held Cl (ls ++ ms) vs → ∃ us bs, vs = us ++ bs ∧ AllOk enc P w base spare held Cl ls us ∧ AllOk enc P w base spare held Cl ms bs := by
  induction ls with
  | nil => exact fun h => ⟨[], _, rfl, trivial, h⟩
  | cons l ls ih =>
    intro vs h
    cases vs with
    | nil => exact h.elim
    | cons v vs =>
      obtain ⟨us, bs, rfl, h1, h2⟩ := ih h.2
      exact ⟨v :: us, bs, rfl, ⟨h.1, h1⟩, h2⟩
theorem de_of_ok {cs : List Value} (h : AllOk enc P w base spare held Cl actLeaves cs) : ∃ a : De, RepF w (encDe a) cs := by
  obtain ⟨c0, r0, rfl, h0, h⟩ := AllOk.split h
  obtain ⟨c1, r1, rfl, h1, h⟩ := AllOk.split h
  obtain ⟨c2, r2, rfl, h2, h⟩ := AllOk.split h
  obtain ⟨c3, r3, rfl, h3, h⟩ := AllOk.split h
  obtain ⟨c4, c5, rfl, h4, h5⟩ := AllOk.split h
  obtain ⟨sw, _, r1⟩ := sw_rep h1
  obtain ⟨po, _, r2⟩ := po_rep h2
  obtain ⟨ac, _, r3⟩ := ac_rep h3
  obtain ⟨fr, rfl, hf⟩ := fr_of_ok h5
  match c0, h0.length with
  | [k], _ =>
    obtain ⟨⟨k0, rfl, _⟩, _⟩ := h0
    match c4, h4.length with
    | [n, m], _ =>
      obtain ⟨⟨n0, rfl, _⟩, ⟨m0, rfl, _⟩, _⟩ := h4
      refine ⟨⟨k0, sw, po, ac, n0, m0, fr⟩, ?_⟩
      have e : encDe ⟨k0, sw, po, ac, n0, m0, fr⟩ = [.int .i64 k0] ++ (encSw sw ++ (encPo po ++ (encAc ac ++ ([.int .i64 n0, .int .i64 m0] ++ encFr fr)))) := by simp [encDe]
      rw [e]
      exact RepF.append repF_int (r1.append (r2.append (r3.append (RepF.append (repF_cons rfl (repF_cons rfl repF_nil)) (fr_repF hf)))))
end
end Go.Proofs.YtmidechdlbcepaaGreat