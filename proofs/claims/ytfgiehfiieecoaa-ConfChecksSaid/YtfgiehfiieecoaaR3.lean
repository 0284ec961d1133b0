/- What is wanted, as it came in, as data by value. -/
import Derived.Test.YtfgiehfiieecoaaR2
import Derived.Test.YtfgiehfiieecoaaG2
namespace Go.Proofs.Ytfgiehfiieecoaa
open Go.ChangeShapes Go.WideShapes Go.ChangeAt Go.RowKit Go.Deep
set_option maxRecDepth 100000

section
variable {H : Type} {enc : TypeId × Value → H} {P : Program} {w : World} {base : Nat} {spare : Nat → Bool} {held : Bool} {Cl : TypeId → DataW H → Prop}
theorem sw_rep {cs : List Value} (h : AllOk enc P w base spare held Cl swLeaves cs) : ∃ x : Sw, x.Ok ∧ RepF w (encSw x) cs := by
  obtain ⟨x, rfl, hx⟩ := sw_of_ok h
  exact ⟨x, hx, fun _ => ⟨rfl, rfl, rfl, trivial⟩⟩
theorem po_rep {cs : List Value} (h : AllOk enc P w base spare held Cl poLeaves cs) : ∃ x : Po, x.Ok ∧ RepF w (encPo x) cs := by
  obtain ⟨x, rfl, hx⟩ := po_of_ok h
  exact ⟨x, hx, fun _ => ⟨rfl, rfl, rfl, rfl, rfl, trivial⟩⟩
theorem ac_rep {cs : List Value} (h : AllOk enc P w base spare held Cl acLeaves cs) : ∃ x : Ac, x.Ok ∧ RepF w (encAc x) cs := by
  obtain ⟨x, rfl, hx⟩ := ac_of_ok h
  exact ⟨x, hx, fun _ => ⟨rfl, rfl, rfl, rfl, rfl, rfl, rfl, rfl, rfl, trivial⟩⟩
theorem small_of {c : Cf} (h0 : c.ss.length * 24 ≤ reachBytes) (h1 : c.ps.length * 40 ≤ reachBytes) (h2 : c.acs.length * 72 ≤ reachBytes) : c.Small := by
  have h0 := reach_le h0
  have h1 := reach_le h1
  have h2 := reach_le h2
  exact ⟨by omega, by omega, by omega⟩
theorem open_cf {r : Reach} {b0 : Nat} {v : Value} {d : DataW H} {p : List MemPlace} (hv : Value.okWide Try.prog w r b0 35 v) (h : DataW.Trod enc Try.prog w base spare held 35 v d p) (hs : SizedCl Try.prog 35 d) :
    ∃ c : Cf, c.Ok ∧ c.Small ∧ c.ss.length * 24 ≤ reachBytes ∧ c.ps.length * 40 ≤ reachBytes ∧ c.acs.length * 72 ≤ reachBytes ∧ ∃ cs : List Value, v = .agg cs.toArray ∧ RepF w (encCf c) cs := by
  obtain ⟨cs, rfl, hcs⟩ := open_struct_c closed_sized Try.underlying35 conf_leaves hv h hs
  match cs, hcs with
  | [v0, v1, v2], ⟨l0, l1, l2, _⟩ =>
    obtain ⟨ss, a1, a2, a3⟩ := open_sl Try.underlying31 sw_leaves sw_cellsOf rfl (by omega) sw_bytes (fun _ h => sw_rep h) l0
    obtain ⟨ps, b1, b2, b3⟩ := open_sl Try.underlying32 po_leaves po_cellsOf rfl (by omega) po_bytes (fun _ h => po_rep h) l1
    obtain ⟨acs, c1, c2, c3⟩ := open_sl Try.underlying33 ac_leaves ac_cellsOf rfl (by omega) ac_bytes (fun _ h => ac_rep h) l2
    exact ⟨⟨ss, ps, acs⟩, ⟨a1, b1, c1⟩, small_of a2 b2 c2, a2, b2, c2, _, rfl, repF_cons a3 (repF_cons b3 (repF_cons c3 repF_nil))⟩
theorem rep_agg {σ : Nat → Value} {fs : List FV} {cs : List Value} (h : RepF w fs cs) : (AV.agg (fs.map .fv)).Rep σ (fun b => b < w.heap.size) w (.agg cs.toArray) := ⟨_, rfl, by simpa using h σ⟩
end
end Go.Proofs.Ytfgiehfiieecoaa
