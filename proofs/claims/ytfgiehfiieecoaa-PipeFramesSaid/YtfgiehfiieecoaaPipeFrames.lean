/- The walk of the law PipeFrames. -/
import Derived.Test.YtfgiehfiieecoaaP3
import Derived.Test.YtfgiehfiieecoaaLeaves
namespace Go.Proofs.Ytfgiehfiieecoaa
open Go.ChangeShapes Go.WideShapes Go.ChangeAt Go.RowKit
set_option maxRecDepth 100000

set_option maxHeartbeats 400000 in
theorem pipeFrames_ok (a0 a1 a2 a3 a4 a5 a6 a7 a8 a9 : Int) (s : ByteArray) (w : World) (h : frameFault ⟨a1, a2, a3, a4, a5, a6, a7, s⟩ = 0) :
    Calls Try.prog 7 #[.agg #[.int .i64 a0, .int .i64 a1, .int .i64 a2, .int .i64 a3, .int .i64 a4, .int .i64 a5, .int .i64 a6, .int .i64 a7, .int .i64 a8, .int .i64 a9, .string s]] w fun e w' => e = .returned (.bool true) ∧ Below w.heap.size w w' := by
  go_enter Try.func7, Try.ntmps7
  go_wp2_with fail
  refine (pipe_Frame_ok _ _ _ _ _ _ _ _ _ _ _ _ h).mono ?_
  rintro e w1 ⟨rfl, hb1⟩
  obtain ⟨hc1, hf1⟩ := bcell hb1
  have hz1 := hb1.size
  try simp at hz1
  have l1_0 : w.heap.size < w1.heap.size := by omega
  have m1_0 : w.heap.size ≤ w1.heap.size := by omega
  go_wp2_with fail
  refine (law_framed _ _ _ _ _ _ _ _ _ _ _ _).mono ?_
  rintro e w2 ⟨rfl, hb2⟩
  obtain ⟨hc2, hf2⟩ := bcell hb2
  have hz2 := hb2.size
  try simp at hz2
  have l2_0 : w.heap.size < w2.heap.size := by omega
  have m2_0 : w.heap.size ≤ w2.heap.size := by omega
  have l2_1 : w1.heap.size < w2.heap.size := by omega
  have m2_1 : w1.heap.size ≤ w2.heap.size := by omega
  go_wp2_with fail
  refine (ref_FrameFault _ _ _ _ _ _ _ _ _).mono ?_
  rintro e w3 ⟨rfl, hb3⟩
  obtain ⟨hc3, hf3⟩ := bcell hb3
  have hz3 := hb3.size
  try simp at hz3
  have l3_0 : w.heap.size < w3.heap.size := by omega
  have m3_0 : w.heap.size ≤ w3.heap.size := by omega
  have l3_1 : w1.heap.size < w3.heap.size := by omega
  have m3_1 : w1.heap.size ≤ w3.heap.size := by omega
  have l3_2 : w2.heap.size < w3.heap.size := by omega
  have m3_2 : w2.heap.size ≤ w3.heap.size := by omega
  go_wp2
  go_ret
  refine ⟨rfl, ?_⟩
  repeat (first | with_reducible exact Below.refl _ _ | (with_reducible refine Below.alloc ?_ ?_ _; rotate_left 1; focus (first | omega | (simp; done) | (simp; omega))) | (with_reducible refine Below.setCell ?_ ?_ _; rotate_left 1; focus (first | omega | (simp; done) | (simp; omega))) | (with_reducible refine Below.trans ?_ (Below.mono (by with_reducible assumption) ?_); rotate_left 1; focus (first | omega | (simp; done) | (simp; omega))) | with_reducible refine Below.drew ?_ | with_reducible refine below_drewN ?_ _)
set_option maxHeartbeats 400000 in
theorem pipeFrames_bad (a0 a1 a2 a3 a4 a5 a6 a7 a8 a9 : Int) (s : ByteArray) (w : World) (h : frameFault ⟨a1, a2, a3, a4, a5, a6, a7, s⟩ ≠ 0) :
    Calls Try.prog 7 #[.agg #[.int .i64 a0, .int .i64 a1, .int .i64 a2, .int .i64 a3, .int .i64 a4, .int .i64 a5, .int .i64 a6, .int .i64 a7, .int .i64 a8, .int .i64 a9, .string s]] w fun e w' => e = .returned (.bool true) ∧ Below w.heap.size w w' := by
  have hb : (frameFault ⟨a1, a2, a3, a4, a5, a6, a7, s⟩ == 0) = false := by simpa using h
  have hn : (frameFault ⟨a1, a2, a3, a4, a5, a6, a7, s⟩ != 0) = true := by simpa using h
  go_enter Try.func7, Try.ntmps7
  go_wp2_with fail
  refine (pipe_Frame_bad _ _ _ _ _ _ _ _ _ _ _ _ h).mono ?_
  rintro e w1 ⟨rfl, hb1⟩
  obtain ⟨hc1, hf1⟩ := bcell hb1
  have hz1 := hb1.size
  try simp at hz1
  have l1_0 : w.heap.size < w1.heap.size := by omega
  have m1_0 : w.heap.size ≤ w1.heap.size := by omega
  go_wp2_with fail
  refine (law_framed _ _ _ _ _ _ _ _ _ _ _ _).mono ?_
  rintro e w2 ⟨rfl, hb2⟩
  obtain ⟨hc2, hf2⟩ := bcell hb2
  have hz2 := hb2.size
  try simp at hz2
  have l2_0 : w.heap.size < w2.heap.size := by omega
  have m2_0 : w.heap.size ≤ w2.heap.size := by omega
  have l2_1 : w1.heap.size < w2.heap.size := by omega
  have m2_1 : w1.heap.size ≤ w2.heap.size := by omega
  go_wp2_with fail
  refine (ref_FrameFault _ _ _ _ _ _ _ _ _).mono ?_
  rintro e w3 ⟨rfl, hb3⟩
  obtain ⟨hc3, hf3⟩ := bcell hb3
  have hz3 := hb3.size
  try simp at hz3
  have l3_0 : w.heap.size < w3.heap.size := by omega
  have m3_0 : w.heap.size ≤ w3.heap.size := by omega
  have l3_1 : w1.heap.size < w3.heap.size := by omega
  have m3_1 : w1.heap.size ≤ w3.heap.size := by omega
  have l3_2 : w2.heap.size < w3.heap.size := by omega
  have m3_2 : w2.heap.size ≤ w3.heap.size := by omega
  go_wp2
  go_ret
  refine ⟨rfl, ?_⟩
  repeat (first | with_reducible exact Below.refl _ _ | (with_reducible refine Below.alloc ?_ ?_ _; rotate_left 1; focus (first | omega | (simp; done) | (simp; omega))) | (with_reducible refine Below.setCell ?_ ?_ _; rotate_left 1; focus (first | omega | (simp; done) | (simp; omega))) | (with_reducible refine Below.trans ?_ (Below.mono (by with_reducible assumption) ?_); rotate_left 1; focus (first | omega | (simp; done) | (simp; omega))) | with_reducible refine Below.drew ?_ | with_reducible refine below_drewN ?_ _)
theorem pipeFrames_open {H : Type} {enc : TypeId × Value → H} (W : World) (base : Nat) {v0 : Value} {d0 : DataW H} {p0 : List MemPlace} (hv0 : Value.okWide Try.prog W .any base 28 v0)
    (h0 : DataW.Trod enc Try.prog W 0 (fun _ => true) true 28 v0 d0 p0) : Calls Try.prog 7 #[v0] W fun e W' => e = .returned (.bool true) ∧ Below W.heap.size W W' := by
  obtain ⟨cs, rfl, hcs⟩ := open_struct Try.underlying28 packet_leaves hv0 h0
  obtain ⟨p, rfl, hp⟩ := pk_of_ok hcs
  by_cases h : frameFault ⟨p.f1, p.f2, p.f3, p.f4, p.f5, p.f6, p.f7, p.body⟩ = 0
  · exact pipeFrames_ok p.f0 p.f1 p.f2 p.f3 p.f4 p.f5 p.f6 p.f7 p.f8 p.f9 p.body W h
  · exact pipeFrames_bad p.f0 p.f1 p.f2 p.f3 p.f4 p.f5 p.f6 p.f7 p.f8 p.f9 p.body W h
end Go.Proofs.Ytfgiehfiieecoaa
