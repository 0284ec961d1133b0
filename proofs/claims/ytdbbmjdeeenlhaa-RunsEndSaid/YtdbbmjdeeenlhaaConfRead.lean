/- What is wanted, as it came in. -/
import Derived.Test.YtdbbmjdeeenlhaaTypes
namespace Go.Proofs.Ytdbbmjdeeenlhaa
open Go.ChangeShapes Go.WideShapes Go.ChangeAt Go.RowKit Go.Deep
set_option maxRecDepth 100000

/-- What is wanted. -/
structure Cf where
  ss : List Sw
  ps : List Po
  acs : List Ac

section
variable {H : Type} {enc : TypeId × Value → H} {w : World} {base : Nat} {spare : Nat → Bool} {held : Bool}

/-- A slice of flat structs that came in, within the form's own reach. -/
theorem open_flat {α : Type} {cells : α → List Value} {Ok : α → Prop} {P : Program} {t e : TypeId} {n k by_ : Nat} {ls : List Leaf} {v : Value} (hu : P.underlying t = some (.slice e)) (hl : leaves P n e = some ls) (hc : P.cellsOf e = k) (hk : ls.length = k) (hp : 0 < k)
    (hby : P.bytesOf e = by_) (hd : ∀ cs, AllOk enc P w base spare held (SizedCl P) ls cs → ∃ x, cs = cells x ∧ Ok x) (h : LeafOk enc P w base spare held (SizedCl P) (.slice t) v) :
    ∃ (l : List α) (A : Option Addr) (c : Nat), v = .slice A l.length c ∧ l.length ≤ c ∧ c ≤ maxLen ∧ (∀ x ∈ l, Ok x) ∧ Rd w (fun b => b < w.heap.size) A (l.map cells).flatten ∧ l.length * by_ ≤ reachBytes := by
  obtain ⟨m, y, hm, hC⟩ := h
  obtain ⟨css, A, c, rfl, h1, h2, h3, h4, h5⟩ := open_slice_plain closed_sized hu hl (hc.trans hk.symm) (by omega) hm hC
  obtain ⟨l, rfl, hl'⟩ := decode_all hd css h3
  refine ⟨l, A, c, by simp, by simpa using h1, h2, hl', h4, ?_⟩
  rcases h5 with h5 | ⟨el, sp, hE, hlen⟩
  · have : l = [] := by simpa using h5
    subst this
    simp
  · have := hE ((el.length + sp.length) * P.bytesOf e) (by simp [DataW.weights, hu])
    rw [hby] at this
    simp at hlen
    rw [← hlen]
    exact Nat.le_trans (Nat.mul_le_mul_right _ (by omega)) this

def confLeaves : List Leaf := [.slice 46, .slice 47, .slice 48]
theorem conf_leaves : leaves Try.prog 2 50 = some confLeaves := by kernel_rfl
def Cf.Ok (c : Cf) : Prop := (∀ x ∈ c.ss, x.Ok) ∧ (∀ x ∈ c.ps, x.Ok) ∧ (∀ x ∈ c.acs, x.Ok)

theorem open_conf {r : Reach} {b0 : Nat} {v : Value} {d : DataW H} {p : List MemPlace} (hv : Value.okWide Try.prog w r b0 50 v) (h : DataW.Trod enc Try.prog w base spare held 50 v d p) (hs : SizedCl Try.prog 50 d) :
    ∃ (c : Cf) (A0 A1 A2 : Option Addr) (c0 c1 c2 : Nat), v = .agg #[.slice A0 c.ss.length c0, .slice A1 c.ps.length c1, .slice A2 c.acs.length c2] ∧ c.Ok ∧ (c.ss.length ≤ maxLen ∧ c.ps.length ≤ maxLen ∧ c.acs.length ≤ maxLen) ∧
      Rd w (fun b => b < w.heap.size) A0 (c.ss.map Sw.cells).flatten ∧ Rd w (fun b => b < w.heap.size) A1 (c.ps.map Po.cells).flatten ∧ Rd w (fun b => b < w.heap.size) A2 (c.acs.map Ac.cells).flatten ∧
      c.ss.length * 24 ≤ reachBytes ∧ c.ps.length * 40 ≤ reachBytes ∧ c.acs.length * 72 ≤ reachBytes := by
  obtain ⟨cs, rfl, hcs⟩ := open_struct_c closed_sized Try.underlying50 conf_leaves hv h hs
  match cs, hcs with
  | [v0, v1, v2], ⟨l0, l1, l2, _⟩ =>
    obtain ⟨ss, A0, c0, rfl, a1, a2, a3, a4, a5⟩ := open_flat Try.underlying46 sw_leaves sw_cellsOf rfl (by omega) sw_bytes (fun _ h => sw_of_ok h) l0
    obtain ⟨ps, A1, c1, rfl, b1, b2, b3, b4, b5⟩ := open_flat Try.underlying47 po_leaves po_cellsOf rfl (by omega) po_bytes (fun _ h => po_of_ok h) l1
    obtain ⟨acs, A2, c2, rfl, d1, d2, d3, d4, d5⟩ := open_flat Try.underlying48 ac_leaves ac_cellsOf rfl (by omega) ac_bytes (fun _ h => ac_of_ok h) l2
    exact ⟨⟨ss, ps, acs⟩, A0, A1, A2, c0, c1, c2, rfl, ⟨a3, b3, d3⟩, ⟨Nat.le_trans a1 a2, Nat.le_trans b1 b2, Nat.le_trans d1 d2⟩, a4, b4, d4, a5, b5, d5⟩
end

theorem reach_le {n : Nat} (h : n ≤ reachBytes) : n ≤ 140737488355328 := Nat.le_trans h (by decide)
end Go.Proofs.Ytdbbmjdeeenlhaa
