/- Walks of pipe.Frame and pipe.Packet where they refuse. -/
import Derived.Test.YtfgiehfiieecoaaP2
namespace Go.Proofs.Ytfgiehfiieecoaa
open Go.RowKit
set_option maxRecDepth 100000

set_option maxHeartbeats 400000 in
theorem pipe_Frame_bad (a0 a1 a2 a3 a4 a5 a6 a7 a8 a9 : Int) (s : ByteArray) (w : World) (h : frameFault ⟨a1, a2, a3, a4, a5, a6, a7, s⟩ ≠ 0) :
    Calls Try.prog 37 #[.agg #[.int .i64 a0, .int .i64 a1, .int .i64 a2, .int .i64 a3, .int .i64 a4, .int .i64 a5, .int .i64 a6, .int .i64 a7, .int .i64 a8, .int .i64 a9, .string s]] w fun e w' => e = .returned (.tuple #[.agg #[.int .i64 0, .int .i64 0, .int .i64 0, .int .i64 0, .int .i64 0, .int .i64 0, .int .i64 0, .string ⟨#[]⟩], .int .i64 (frameFault ⟨a1, a2, a3, a4, a5, a6, a7, s⟩)]) ∧ Below w.heap.size w w' := by
  have hb : (frameFault ⟨a1, a2, a3, a4, a5, a6, a7, s⟩ == 0) = false := by simpa using h
  have hn : (frameFault ⟨a1, a2, a3, a4, a5, a6, a7, s⟩ != 0) = true := by simpa using h
  go_enter Try.func37, Try.ntmps37
  go_wp2_with fail
  refine (wire_Check _ _ _ _ _ _ _ _ _).mono ?_
  rintro e w1 ⟨rfl, hb1⟩
  obtain ⟨hc1, hf1⟩ := bcell hb1
  have hz1 := hb1.size
  simp at hz1
  have l10 : w.heap.size < w1.heap.size := by omega
  have l11 : w.heap.size + 1 < w1.heap.size := by omega
  go_wp2
  refine bodyPost_ret (v := .tuple #[.agg #[.int .i64 0, .int .i64 0, .int .i64 0, .int .i64 0, .int .i64 0, .int .i64 0, .int .i64 0, .string ⟨#[]⟩], .int .i64 (frameFault ⟨a1, a2, a3, a4, a5, a6, a7, s⟩)]) (by simp [results, Try.results37, go_sem, *]) rfl ⟨rfl, ?_⟩
  repeat (first | with_reducible exact Below.refl _ _ | (with_reducible refine Below.alloc ?_ ?_ _; rotate_left 1; focus (first | omega | (simp; done) | (simp; omega))) | (with_reducible refine Below.setCell ?_ ?_ _; rotate_left 1; focus (first | omega | (simp; done) | (simp; omega))) | (with_reducible refine Below.trans ?_ (Below.mono (by with_reducible assumption) ?_); rotate_left 1; focus (first | omega | (simp; done) | (simp; omega))))
set_option maxHeartbeats 400000 in
theorem pipe_Packet_bad1 (b0 b1 b2 b3 b4 b5 b6 : Int) (s : ByteArray) (i n t : Int) (w : World) (h : frameFault ⟨b0, b1, b2, b3, b4, b5, b6, s⟩ ≠ 0) :
    Calls Try.prog 39 #[.agg #[.int .i64 b0, .int .i64 b1, .int .i64 b2, .int .i64 b3, .int .i64 b4, .int .i64 b5, .int .i64 b6, .string s], .int .i64 i, .int .i64 n, .int .i64 t] w fun e w' => e = .returned (.tuple #[.agg #[.int .i64 0, .int .i64 0, .int .i64 0, .int .i64 0, .int .i64 0, .int .i64 0, .int .i64 0, .int .i64 0, .int .i64 0, .int .i64 0, .string ⟨#[]⟩], .int .i64 (frameFault ⟨b0, b1, b2, b3, b4, b5, b6, s⟩)]) ∧ Below w.heap.size w w' := by
  have hb : (frameFault ⟨b0, b1, b2, b3, b4, b5, b6, s⟩ == 0) = false := by simpa using h
  have hn : (frameFault ⟨b0, b1, b2, b3, b4, b5, b6, s⟩ != 0) = true := by simpa using h
  go_enter Try.func39, Try.ntmps39
  go_wp2_with fail
  refine (wire_Check _ _ _ _ _ _ _ _ _).mono ?_
  rintro e w1 ⟨rfl, hb1⟩
  obtain ⟨hc1, hf1⟩ := bcell hb1
  have hz1 := hb1.size
  simp at hz1
  have l10 : w.heap.size < w1.heap.size := by omega
  have l11 : w.heap.size + 1 < w1.heap.size := by omega
  go_wp2
  refine bodyPost_ret (v := .tuple #[.agg #[.int .i64 0, .int .i64 0, .int .i64 0, .int .i64 0, .int .i64 0, .int .i64 0, .int .i64 0, .int .i64 0, .int .i64 0, .int .i64 0, .string ⟨#[]⟩], .int .i64 (frameFault ⟨b0, b1, b2, b3, b4, b5, b6, s⟩)]) (by simp [results, Try.results39, go_sem, *]) rfl ⟨rfl, ?_⟩
  repeat (first | with_reducible exact Below.refl _ _ | (with_reducible refine Below.alloc ?_ ?_ _; rotate_left 1; focus (first | omega | (simp; done) | (simp; omega))) | (with_reducible refine Below.setCell ?_ ?_ _; rotate_left 1; focus (first | omega | (simp; done) | (simp; omega))) | (with_reducible refine Below.trans ?_ (Below.mono (by with_reducible assumption) ?_); rotate_left 1; focus (first | omega | (simp; done) | (simp; omega))))
set_option maxHeartbeats 400000 in
theorem pipe_Packet_bad2 (b0 b1 b2 b3 b4 b5 b6 : Int) (s : ByteArray) (i n t : Int) (w : World) (h : frameFault ⟨b0, b1, b2, b3, b4, b5, b6, s⟩ = 0) (h2 : packetFault ⟨i, b0, b1, b2, b3, b4, b5, b6, n, t, s⟩ ≠ 0) :
    Calls Try.prog 39 #[.agg #[.int .i64 b0, .int .i64 b1, .int .i64 b2, .int .i64 b3, .int .i64 b4, .int .i64 b5, .int .i64 b6, .string s], .int .i64 i, .int .i64 n, .int .i64 t] w fun e w' => e = .returned (.tuple #[.agg #[.int .i64 0, .int .i64 0, .int .i64 0, .int .i64 0, .int .i64 0, .int .i64 0, .int .i64 0, .int .i64 0, .int .i64 0, .int .i64 0, .string ⟨#[]⟩], .int .i64 (packetFault ⟨i, b0, b1, b2, b3, b4, b5, b6, n, t, s⟩)]) ∧ Below w.heap.size w w' := by
  have hb : (packetFault ⟨i, b0, b1, b2, b3, b4, b5, b6, n, t, s⟩ == 0) = false := by simpa using h2
  have hn : (packetFault ⟨i, b0, b1, b2, b3, b4, b5, b6, n, t, s⟩ != 0) = true := by simpa using h2
  go_enter Try.func39, Try.ntmps39
  go_wp2_with fail
  refine (wire_Check _ _ _ _ _ _ _ _ _).mono ?_
  rintro e w1 ⟨rfl, hb1⟩
  obtain ⟨hc1, hf1⟩ := bcell hb1
  have hz1 := hb1.size
  simp at hz1
  have l10 : w.heap.size < w1.heap.size := by omega
  have l11 : w.heap.size + 1 < w1.heap.size := by omega
  go_wp2_with fail
  refine (flow_CheckPacket _ _ _ _ _ _ _ _ _ _ _ _).mono ?_
  rintro e w2 ⟨rfl, hb2⟩
  obtain ⟨hc2, hf2⟩ := bcell hb2
  have hz2 := hb2.size
  simp at hz2
  have l20 : w.heap.size < w2.heap.size := by omega
  have l21 : w.heap.size + 1 < w2.heap.size := by omega
  have l22 : w1.heap.size < w2.heap.size := by omega
  go_wp2
  refine bodyPost_ret (v := .tuple #[.agg #[.int .i64 0, .int .i64 0, .int .i64 0, .int .i64 0, .int .i64 0, .int .i64 0, .int .i64 0, .int .i64 0, .int .i64 0, .int .i64 0, .string ⟨#[]⟩], .int .i64 (packetFault ⟨i, b0, b1, b2, b3, b4, b5, b6, n, t, s⟩)]) (by simp [results, Try.results39, go_sem, *]) rfl ⟨rfl, ?_⟩
  repeat (first | with_reducible exact Below.refl _ _ | (with_reducible refine Below.alloc ?_ ?_ _; rotate_left 1; focus (first | omega | (simp; done) | (simp; omega))) | (with_reducible refine Below.setCell ?_ ?_ _; rotate_left 1; focus (first | omega | (simp; done) | (simp; omega))) | (with_reducible refine Below.trans ?_ (Below.mono (by with_reducible assumption) ?_); rotate_left 1; focus (first | omega | (simp; done) | (simp; omega))))
end Go.Proofs.Ytfgiehfiieecoaa
