/- The walk of the law WireChecks. -/
import Derived.Test.YtfgiehfiieecoaaW2
import Derived.Test.YtfgiehfiieecoaaLeaves
namespace Go.Proofs.Ytfgiehfiieecoaa
open Go.ChangeShapes Go.WideShapes Go.ChangeAt Go.RowKit
set_option maxRecDepth 100000

set_option maxHeartbeats 400000 in
theorem wireChecks_walk (a0 a1 a2 a3 a4 a5 a6 : Int) (s : ByteArray) (w : World) :
    Calls Try.prog 6 #[.agg #[.int .i64 a0, .int .i64 a1, .int .i64 a2, .int .i64 a3, .int .i64 a4, .int .i64 a5, .int .i64 a6, .string s]] w fun e w' => e = .returned (.bool true) ∧ Below w.heap.size w w' := by
  go_enter Try.func6, Try.ntmps6
  go_wp2_with (first | (go_at_call 35; refine (wire_Check _ _ _ _ _ _ _ _ _).mono ?_; rintro e w1 ⟨rfl, hb1⟩; obtain ⟨hc1, hf1⟩ := bcell hb1) | (go_at_call 36; refine (ref_FrameFault _ _ _ _ _ _ _ _ _).mono ?_; rintro e w2 ⟨rfl, hb2⟩; obtain ⟨hc2, hf2⟩ := bcell hb2))
  go_ret
  exact ⟨ret_bool (by simp), ((al_ _ _).nxt hb1).nxt hb2⟩


theorem wireChecks_open {H : Type} {enc : TypeId × Value → H} (W : World) (base : Nat) {v0 : Value} {d0 : DataW H} {p0 : List MemPlace} (hv0 : Value.okWide Try.prog W .any base 40 v0)
    (h0 : DataW.Trod enc Try.prog W 0 (fun _ => true) true 40 v0 d0 p0) : Calls Try.prog 6 #[v0] W fun e W' => e = .returned (.bool true) ∧ Below W.heap.size W W' := by
  obtain ⟨cs, rfl, hcs⟩ := open_struct Try.underlying40 frame_leaves hv0 h0
  obtain ⟨f, rfl, hf⟩ := fr_of_ok hcs
  exact wireChecks_walk f.dst f.src f.kind f.ipSrc f.ipDst f.ttl f.port f.body W
end Go.Proofs.Ytfgiehfiieecoaa
