/- Bytes that came in, as data by value. -/
import Derived.Test.YtfgiehfiieecoaaR2
namespace Go.Proofs.Ytfgiehfiieecoaa
open Go.ChangeShapes Go.WideShapes Go.ChangeAt Go.RowKit Go.Deep
set_option maxRecDepth 100000

theorem u8_leaves : leaves Try.prog 1 5 = some [.byte] := by kernel_rfl
theorem u8_cellsOf : Try.prog.cellsOf 5 = 1 := by kernel_rfl
theorem u8_bytes : Try.prog.bytesOf 5 = 1 := by kernel_rfl
section
variable {H : Type} {enc : TypeId × Value → H} {P : Program} {w : World} {base : Nat} {spare : Nat → Bool} {held : Bool} {Cl : TypeId → DataW H → Prop}
theorem u8_rep {cs : List Value} (h : AllOk enc P w base spare held Cl [.byte] cs) : ∃ u : UInt8, True ∧ RepF w (encB u) cs := by
  match cs, h.length with
  | [c0], _ =>
    obtain ⟨⟨n, rfl, h0, h1⟩, _⟩ := h
    refine ⟨UInt8.ofNat n.toNat, trivial, fun _ => ⟨?_, trivial⟩⟩
    have e : ((UInt8.ofNat n.toNat).toNat : Int) = n := by
      rw [UInt8.toNat_ofNat']
      omega
    show Value.int .u8 n = Value.int .u8 ((UInt8.ofNat n.toNat).toNat : Int)
    rw [e]
theorem open_bytes {v : Value} {d : DataW H} {p : List MemPlace} {r : Reach} {b0 : Nat} (hv : Value.okWide Try.prog w r b0 50 v) (h : DataW.Trod enc Try.prog w base spare held 50 v d p) (hs : SizedCl Try.prog 50 d) :
    ∃ bs : List UInt8, bs.length ≤ 140737488355328 ∧ (slOf encB bs).Rep (fun b => b < w.heap.size) w v := by
  obtain ⟨l, _, hn, hr⟩ := open_sl_arg Try.underlying50 u8_leaves u8_cellsOf rfl (by omega) u8_bytes (fun _ h => u8_rep h) hv h hs
  have hn' : l.length * 1 ≤ 140737488355328 := Nat.le_trans hn (by decide)
  exact ⟨l, by omega, hr⟩
end
end Go.Proofs.Ytfgiehfiieecoaa
