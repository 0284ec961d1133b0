/- The walk of the law PipePackets. -/
import Derived.Test.YtfgiehfiieecoaaP3
import Derived.Test.YtfgiehfiieecoaaLeaves
namespace Go.Proofs.Ytfgiehfiieecoaa
open Go.ChangeShapes Go.WideShapes Go.ChangeAt Go.RowKit
set_option maxRecDepth 100000

set_option maxHeartbeats 400000 in
theorem pipePackets_ok (b0 b1 b2 b3 b4 b5 b6 : Int) (s : ByteArray) (i n t : Int) (w : World) (h : frameFault ⟨b0, b1, b2, b3, b4, b5, b6, s⟩ = 0) (h2 : packetFault ⟨i, b0, b1, b2, b3, b4, b5, b6, n, t, s⟩ = 0) :
    Calls Try.prog 8 #[.agg #[.int .i64 b0, .int .i64 b1, .int .i64 b2, .int .i64 b3, .int .i64 b4, .int .i64 b5, .int .i64 b6, .string s], .int .i64 i, .int .i64 n, .int .i64 t] w fun e w' => e = .returned (.bool true) ∧ Below w.heap.size w w' := by
  have hq : ∀ W : World, (binOp .eql 28 (.agg #[.int .i64 i, .int .i64 b0, .int .i64 b1, .int .i64 b2, .int .i64 b3, .int .i64 b4, .int .i64 b5, .int .i64 b6, .int .i64 n, .int .i64 t, .string s]) (.agg #[.int .i64 i, .int .i64 b0, .int .i64 b1, .int .i64 b2, .int .i64 b3, .int .i64 b4, .int .i64 b5, .int .i64 b6, .int .i64 n, .int .i64 t, .string s])).run Try.prog W = .ok (.bool true) W := fun W => eql_packet_same ⟨i, b0, b1, b2, b3, b4, b5, b6, n, t, s⟩ W
  go_enter Try.func8, Try.ntmps8
  go_wp2_with fail
  refine (pipe_Packet_ok _ _ _ _ _ _ _ _ _ _ _ _ h h2).mono ?_
  rintro e w1 ⟨rfl, hb1⟩
  obtain ⟨hc1, hf1⟩ := bcell hb1
  have hz1 := hb1.size
  try simp at hz1
  have l1_0 : w.heap.size < w1.heap.size := by omega
  have m1_0 : w.heap.size ≤ w1.heap.size := by omega
  go_wp2_with fail
  refine (law_packet _ _ _ _ _ _ _ _ _ _ _ _).mono ?_
  rintro e w2 ⟨rfl, hb2⟩
  obtain ⟨hc2, hf2⟩ := bcell hb2
  have hz2 := hb2.size
  try simp at hz2
  have l2_0 : w.heap.size < w2.heap.size := by omega
  have m2_0 : w.heap.size ≤ w2.heap.size := by omega
  have l2_1 : w1.heap.size < w2.heap.size := by omega
  have m2_1 : w1.heap.size ≤ w2.heap.size := by omega
  go_wp2_with fail
  refine (ref_FrameFault _ _ _ _ _ _ _ _ _).mono ?_
  rintro e w3 ⟨rfl, hb3⟩
  obtain ⟨hc3, hf3⟩ := bcell hb3
  have hz3 := hb3.size
  try simp at hz3
  have l3_0 : w.heap.size < w3.heap.size := by omega
  have m3_0 : w.heap.size ≤ w3.heap.size := by omega
  have l3_1 : w1.heap.size < w3.heap.size := by omega
  have m3_1 : w1.heap.size ≤ w3.heap.size := by omega
  have l3_2 : w2.heap.size < w3.heap.size := by omega
  have m3_2 : w2.heap.size ≤ w3.heap.size := by omega
  go_wp2_with fail
  refine (ref_PacketFault _ _ _ _ _ _ _ _ _ _ _ _).mono ?_
  rintro e w4 ⟨rfl, hb4⟩
  obtain ⟨hc4, hf4⟩ := bcell hb4
  have hz4 := hb4.size
  try simp at hz4
  have l4_0 : w.heap.size < w4.heap.size := by omega
  have m4_0 : w.heap.size ≤ w4.heap.size := by omega
  have l4_1 : w1.heap.size < w4.heap.size := by omega
  have m4_1 : w1.heap.size ≤ w4.heap.size := by omega
  have l4_2 : w2.heap.size < w4.heap.size := by omega
  have m4_2 : w2.heap.size ≤ w4.heap.size := by omega
  go_wp2
  go_ret
  refine ⟨rfl, ?_⟩
  repeat (first | with_reducible exact Below.refl _ _ | (with_reducible refine Below.alloc ?_ ?_ _; rotate_left 1; focus (first | omega | (simp; done) | (simp; omega))) | (with_reducible refine Below.setCell ?_ ?_ _; rotate_left 1; focus (first | omega | (simp; done) | (simp; omega))) | (with_reducible refine Below.trans ?_ (Below.mono (by with_reducible assumption) ?_); rotate_left 1; focus (first | omega | (simp; done) | (simp; omega))) | with_reducible refine Below.drew ?_ | with_reducible refine below_drewN ?_ _)
set_option maxHeartbeats 400000 in
theorem pipePackets_bad1 (b0 b1 b2 b3 b4 b5 b6 : Int) (s : ByteArray) (i n t : Int) (w : World) (h : frameFault ⟨b0, b1, b2, b3, b4, b5, b6, s⟩ ≠ 0) :
    Calls Try.prog 8 #[.agg #[.int .i64 b0, .int .i64 b1, .int .i64 b2, .int .i64 b3, .int .i64 b4, .int .i64 b5, .int .i64 b6, .string s], .int .i64 i, .int .i64 n, .int .i64 t] w fun e w' => e = .returned (.bool true) ∧ Below w.heap.size w w' := by
  have hb : (frameFault ⟨b0, b1, b2, b3, b4, b5, b6, s⟩ == 0) = false := by simpa using h
  have hn : (frameFault ⟨b0, b1, b2, b3, b4, b5, b6, s⟩ != 0) = true := by simpa using h
  have hq : ∀ W : World, (binOp .eql 28 (.agg #[.int .i64 0, .int .i64 0, .int .i64 0, .int .i64 0, .int .i64 0, .int .i64 0, .int .i64 0, .int .i64 0, .int .i64 0, .int .i64 0, .string ⟨#[]⟩]) (.agg #[.int .i64 0, .int .i64 0, .int .i64 0, .int .i64 0, .int .i64 0, .int .i64 0, .int .i64 0, .int .i64 0, .int .i64 0, .int .i64 0, .string ⟨#[]⟩])).run Try.prog W = .ok (.bool true) W := fun W => eql_packet_same ⟨0, 0, 0, 0, 0, 0, 0, 0, 0, 0, ⟨#[]⟩⟩ W
  go_enter Try.func8, Try.ntmps8
  go_wp2_with fail
  refine (pipe_Packet_bad1 _ _ _ _ _ _ _ _ _ _ _ _ h).mono ?_
  rintro e w1 ⟨rfl, hb1⟩
  obtain ⟨hc1, hf1⟩ := bcell hb1
  have hz1 := hb1.size
  try simp at hz1
  have l1_0 : w.heap.size < w1.heap.size := by omega
  have m1_0 : w.heap.size ≤ w1.heap.size := by omega
  go_wp2_with fail
  refine (law_packet _ _ _ _ _ _ _ _ _ _ _ _).mono ?_
  rintro e w2 ⟨rfl, hb2⟩
  obtain ⟨hc2, hf2⟩ := bcell hb2
  have hz2 := hb2.size
  try simp at hz2
  have l2_0 : w.heap.size < w2.heap.size := by omega
  have m2_0 : w.heap.size ≤ w2.heap.size := by omega
  have l2_1 : w1.heap.size < w2.heap.size := by omega
  have m2_1 : w1.heap.size ≤ w2.heap.size := by omega
  go_wp2_with fail
  refine (ref_FrameFault _ _ _ _ _ _ _ _ _).mono ?_
  rintro e w3 ⟨rfl, hb3⟩
  obtain ⟨hc3, hf3⟩ := bcell hb3
  have hz3 := hb3.size
  try simp at hz3
  have l3_0 : w.heap.size < w3.heap.size := by omega
  have m3_0 : w.heap.size ≤ w3.heap.size := by omega
  have l3_1 : w1.heap.size < w3.heap.size := by omega
  have m3_1 : w1.heap.size ≤ w3.heap.size := by omega
  have l3_2 : w2.heap.size < w3.heap.size := by omega
  have m3_2 : w2.heap.size ≤ w3.heap.size := by omega
  go_wp2
  go_ret
  refine ⟨rfl, ?_⟩
  repeat (first | with_reducible exact Below.refl _ _ | (with_reducible refine Below.alloc ?_ ?_ _; rotate_left 1; focus (first | omega | (simp; done) | (simp; omega))) | (with_reducible refine Below.setCell ?_ ?_ _; rotate_left 1; focus (first | omega | (simp; done) | (simp; omega))) | (with_reducible refine Below.trans ?_ (Below.mono (by with_reducible assumption) ?_); rotate_left 1; focus (first | omega | (simp; done) | (simp; omega))) | with_reducible refine Below.drew ?_ | with_reducible refine below_drewN ?_ _)
set_option maxHeartbeats 400000 in
theorem pipePackets_bad2 (b0 b1 b2 b3 b4 b5 b6 : Int) (s : ByteArray) (i n t : Int) (w : World) (h : frameFault ⟨b0, b1, b2, b3, b4, b5, b6, s⟩ = 0) (h2 : packetFault ⟨i, b0, b1, b2, b3, b4, b5, b6, n, t, s⟩ ≠ 0) :
    Calls Try.prog 8 #[.agg #[.int .i64 b0, .int .i64 b1, .int .i64 b2, .int .i64 b3, .int .i64 b4, .int .i64 b5, .int .i64 b6, .string s], .int .i64 i, .int .i64 n, .int .i64 t] w fun e w' => e = .returned (.bool true) ∧ Below w.heap.size w w' := by
  have hb : (packetFault ⟨i, b0, b1, b2, b3, b4, b5, b6, n, t, s⟩ == 0) = false := by simpa using h2
  have hn : (packetFault ⟨i, b0, b1, b2, b3, b4, b5, b6, n, t, s⟩ != 0) = true := by simpa using h2
  have hq : ∀ W : World, (binOp .eql 28 (.agg #[.int .i64 0, .int .i64 0, .int .i64 0, .int .i64 0, .int .i64 0, .int .i64 0, .int .i64 0, .int .i64 0, .int .i64 0, .int .i64 0, .string ⟨#[]⟩]) (.agg #[.int .i64 0, .int .i64 0, .int .i64 0, .int .i64 0, .int .i64 0, .int .i64 0, .int .i64 0, .int .i64 0, .int .i64 0, .int .i64 0, .string ⟨#[]⟩])).run Try.prog W = .ok (.bool true) W := fun W => eql_packet_same ⟨0, 0, 0, 0, 0, 0, 0, 0, 0, 0, ⟨#[]⟩⟩ W
  go_enter Try.func8, Try.ntmps8
  go_wp2_with fail
  refine (pipe_Packet_bad2 _ _ _ _ _ _ _ _ _ _ _ _ h h2).mono ?_
  rintro e w1 ⟨rfl, hb1⟩
  obtain ⟨hc1, hf1⟩ := bcell hb1
  have hz1 := hb1.size
  try simp at hz1
  have l1_0 : w.heap.size < w1.heap.size := by omega
  have m1_0 : w.heap.size ≤ w1.heap.size := by omega
  go_wp2_with fail
  refine (law_packet _ _ _ _ _ _ _ _ _ _ _ _).mono ?_
  rintro e w2 ⟨rfl, hb2⟩
  obtain ⟨hc2, hf2⟩ := bcell hb2
  have hz2 := hb2.size
  try simp at hz2
  have l2_0 : w.heap.size < w2.heap.size := by omega
  have m2_0 : w.heap.size ≤ w2.heap.size := by omega
  have l2_1 : w1.heap.size < w2.heap.size := by omega
  have m2_1 : w1.heap.size ≤ w2.heap.size := by omega
  go_wp2_with fail
  refine (ref_FrameFault _ _ _ _ _ _ _ _ _).mono ?_
  rintro e w3 ⟨rfl, hb3⟩
  obtain ⟨hc3, hf3⟩ := bcell hb3
  have hz3 := hb3.size
  try simp at hz3
  have l3_0 : w.heap.size < w3.heap.size := by omega
  have m3_0 : w.heap.size ≤ w3.heap.size := by omega
  have l3_1 : w1.heap.size < w3.heap.size := by omega
  have m3_1 : w1.heap.size ≤ w3.heap.size := by omega
  have l3_2 : w2.heap.size < w3.heap.size := by omega
  have m3_2 : w2.heap.size ≤ w3.heap.size := by omega
  go_wp2_with fail
  refine (ref_PacketFault _ _ _ _ _ _ _ _ _ _ _ _).mono ?_
  rintro e w4 ⟨rfl, hb4⟩
  obtain ⟨hc4, hf4⟩ := bcell hb4
  have hz4 := hb4.size
  try simp at hz4
  have l4_0 : w.heap.size < w4.heap.size := by omega
  have m4_0 : w.heap.size ≤ w4.heap.size := by omega
  have l4_1 : w1.heap.size < w4.heap.size := by omega
  have m4_1 : w1.heap.size ≤ w4.heap.size := by omega
  have l4_2 : w2.heap.size < w4.heap.size := by omega
  have m4_2 : w2.heap.size ≤ w4.heap.size := by omega
  go_wp2
  go_ret
  refine ⟨rfl, ?_⟩
  repeat (first | with_reducible exact Below.refl _ _ | (with_reducible refine Below.alloc ?_ ?_ _; rotate_left 1; focus (first | omega | (simp; done) | (simp; omega))) | (with_reducible refine Below.setCell ?_ ?_ _; rotate_left 1; focus (first | omega | (simp; done) | (simp; omega))) | (with_reducible refine Below.trans ?_ (Below.mono (by with_reducible assumption) ?_); rotate_left 1; focus (first | omega | (simp; done) | (simp; omega))) | with_reducible refine Below.drew ?_ | with_reducible refine below_drewN ?_ _)

theorem pipePackets_open {H : Type} {enc : TypeId × Value → H} (W : World) (base : Nat) {v0 v1 v2 v3 : Value} {d0 d1 d2 d3 : DataW H} {p0 p1 p2 p3 : List MemPlace} (hv0 : Value.okWide Try.prog W .any base 40 v0)
    (h0 : DataW.Trod enc Try.prog W 0 (fun _ => true) true 40 v0 d0 p0) (hv1 : Value.okWide Try.prog W .any base 3 v1) (h1 : DataW.Trod enc Try.prog W 0 (fun _ => true) true 3 v1 d1 p1)
    (hv2 : Value.okWide Try.prog W .any base 3 v2) (h2 : DataW.Trod enc Try.prog W 0 (fun _ => true) true 3 v2 d2 p2) (hv3 : Value.okWide Try.prog W .any base 3 v3) (h3 : DataW.Trod enc Try.prog W 0 (fun _ => true) true 3 v3 d3 p3) :
    Calls Try.prog 8 #[v0, v1, v2, v3] W fun e W' => e = .returned (.bool true) ∧ Below W.heap.size W W' := by
  obtain ⟨cs, rfl, hcs⟩ := open_struct Try.underlying40 frame_leaves hv0 h0
  obtain ⟨f, rfl, hf⟩ := fr_of_ok hcs
  obtain ⟨i, rfl, _, _, _⟩ := open_int Try.underlying3 hv1 h1
  obtain ⟨n, rfl, _, _, _⟩ := open_int Try.underlying3 hv2 h2
  obtain ⟨t, rfl, _, _, _⟩ := open_int Try.underlying3 hv3 h3
  by_cases h : frameFault ⟨f.dst, f.src, f.kind, f.ipSrc, f.ipDst, f.ttl, f.port, f.body⟩ = 0
  · by_cases h2 : packetFault ⟨i, f.dst, f.src, f.kind, f.ipSrc, f.ipDst, f.ttl, f.port, n, t, f.body⟩ = 0
    · exact pipePackets_ok _ _ _ _ _ _ _ _ i n t W h h2
    · exact pipePackets_bad2 _ _ _ _ _ _ _ _ i n t W h h2
  · exact pipePackets_bad1 _ _ _ _ _ _ _ _ i n t W h
end Go.Proofs.Ytfgiehfiieecoaa
