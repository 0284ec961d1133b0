/- The walk of the law FlowPackets. -/
import Derived.Test.YtfgiehfiieecoaaP1
import Derived.Test.YtfgiehfiieecoaaLeaves
namespace Go.Proofs.Ytfgiehfiieecoaa
open Go.ChangeShapes Go.WideShapes Go.ChangeAt Go.RowKit
set_option maxRecDepth 100000

set_option maxHeartbeats 400000 in
theorem flowPackets_walk (a0 a1 a2 a3 a4 a5 a6 a7 a8 a9 : Int) (s : ByteArray) (w : World) :
    Calls Try.prog 4 #[.agg #[.int .i64 a0, .int .i64 a1, .int .i64 a2, .int .i64 a3, .int .i64 a4, .int .i64 a5, .int .i64 a6, .int .i64 a7, .int .i64 a8, .int .i64 a9, .string s]] w fun e w' => e = .returned (.bool true) ∧ Below w.heap.size w w' := by
  go_enter Try.func4, Try.ntmps4
  go_wp2_with (first | (go_at_call 31; refine (flow_CheckPacket _ _ _ _ _ _ _ _ _ _ _ _).mono ?_; rintro e w1 ⟨rfl, hb1⟩; obtain ⟨hc1, hf1⟩ := bcell hb1) | (go_at_call 32; refine (ref_PacketFault _ _ _ _ _ _ _ _ _ _ _ _).mono ?_; rintro e w2 ⟨rfl, hb2⟩))
  go_ret
  exact ⟨ret_bool (by simp), ((al_ _ _).nxt hb1).nxt hb2⟩

theorem flowPackets_open {H : Type} {enc : TypeId × Value → H} (W : World) (base : Nat) {v0 : Value} {d0 : DataW H} {p0 : List MemPlace} (hv0 : Value.okWide Try.prog W .any base 28 v0)
    (h0 : DataW.Trod enc Try.prog W 0 (fun _ => true) true 28 v0 d0 p0) : Calls Try.prog 4 #[v0] W fun e W' => e = .returned (.bool true) ∧ Below W.heap.size W W' := by
  obtain ⟨cs, rfl, hcs⟩ := open_struct Try.underlying28 packet_leaves hv0 h0
  obtain ⟨p, rfl, hp⟩ := pk_of_ok hcs
  exact flowPackets_walk p.f0 p.f1 p.f2 p.f3 p.f4 p.f5 p.f6 p.f7 p.f8 p.f9 p.body W
end Go.Proofs.Ytfgiehfiieecoaa
