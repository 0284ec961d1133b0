/- The walk of the law Names. -/
import Derived.Test.YtfgiehfiieecoaaLeaves
import Derived.Test.YtfgiehfiieecoaaOwn
namespace Go.Proofs.Ytfgiehfiieecoaa
open Go.RowKit
set_option maxRecDepth 100000
theorem elem_ints : Elem Try.prog 24 3 1 8 := elem_of Try.underlying24 (z := .int .i64 0) (by kernel_rfl) rfl (by omega)
def nmA : List Value := List.map (Value.int .i64) [65535, 65535, 60000, 40, 255, 9, 12, 40, 40, 1000, 6, 5000, 8, 12, 100, 300, 1, 2, 3, 1, 2, 3, 4, 5, 6]
def nmB : List Value := List.map (Value.int .i64) [0, 1, 2, 3, 4, 5, 6, 7, 8, 9, 10]
def nmC : List Value := List.map (Value.int .i64) [1, 2, 3, 4, 5, 6, 7, 8]

set_option maxHeartbeats 400000 in
theorem names_walk (w : World) : Calls Try.prog 3 #[] w fun e w' => e = .returned (.bool true) ∧ Below w.heap.size w w' := by
  go_enter Try.func3, Try.ntmps3
  go_wp2
  go_loop [2] (fun i => ∃ k : Nat, k ≤ 11 ∧ i = .int .i64 k) (fun i => 11 - (intOf i).toNat)
  case atStart => exact ⟨0, by omega, rfl⟩
  case round =>
    obtain ⟨k, hk, rfl⟩ := hrel
    by_cases hlt : k < 11
    · have hcell : ([Value.int .i64 0, .int .i64 1, .int .i64 2, .int .i64 3, .int .i64 4, .int .i64 5, .int .i64 6, .int .i64 7, .int .i64 8, .int .i64 9, .int .i64 10] : List Value)[k]'(by simpa using hlt) = .int .i64 k := by
        rcases (by omega : k = 0 ∨ k = 1 ∨ k = 2 ∨ k = 3 ∨ k = 4 ∨ k = 5 ∨ k = 6 ∨ k = 7 ∨ k = 8 ∨ k = 9 ∨ k = 10) with rfl | rfl | rfl | rfl | rfl | rfl | rfl | rfl | rfl | rfl | rfl <;> rfl
      go_wp2
      go_round
      case rel => exact ⟨k + 1, by omega, by go_num⟩
      case measure => simp [intOf]; omega
    · obtain rfl : k = 11 := by omega
      go_wp2_with (at_builtin; refine wpList_app _ rfl (.tmp 21) (.tmp 22) (base := w.heap.size) (n := 25) (xs := nmA) (news := nmB) elem_ints rfl rfl ?hown1 rfl ?hl1 ?hr1 ?o1 ?m1 (by omega) ?base1 ?_)
      case hown1 => exact (((Blk.new' (g := w.heap.size + 1) (w := w.alloc _) (by simp) 3 nmA.toArray).alloc _).alloc _).owns (by omega) rfl (by simp [maxLen])
      case hl1 => rfl
      case hr1 => exact (Blk.new' (g := w.heap.size + 1 + 1 + 1) (w := ((w.alloc _).alloc _).alloc _) (by simp) 3 nmB.toArray).src 11
      case o1 => simp [nmB, Value.oneCell']
      case m1 => simp [maxLen]
      case base1 => omega
      have hW : Blk ((((w.alloc (Obj.cells nmB.toArray 22)).alloc (Obj.cells nmA.toArray 3)).alloc (Obj.cells nmA.toArray 3)).alloc (Obj.cells nmB.toArray 3)) (w.heap.size + 1 + 1) 3 nmA.toArray := (Blk.new' (w := (w.alloc _).alloc _) (by simp) 3 nmA.toArray).alloc _
      have hB0 : Below w.heap.size w ((((w.alloc (Obj.cells nmB.toArray 22)).alloc (Obj.cells nmA.toArray 3)).alloc (Obj.cells nmA.toArray 3)).alloc (Obj.cells nmB.toArray 3)) := (((al_ w _).more _).more _).more _
      intro v1 w1 hown1 hg1 hb1
      have hW1 := hW.grown hg1 (by simp [Value.ownBlock])
      have hB1 := hB0.grown hg1 hB0.size (by simp [Value.ownBlock])
      clear hW hB0 hg1
      have hne1 : v1.ownBlock ≠ some (w.heap.size + 1 + 1) := by
        rcases hb1 with e | e <;> rw [e] <;> simp [Value.ownBlock]
        omega
      have hlt1 := hown1.lt
      go_wp2_with (at_builtin; refine wpList_app _ rfl (.tmp 24) (.tmp 25) (base := w.heap.size) (n := 25) (xs := nmA) (news := nmB) elem_ints rfl rfl ?hown2 rfl ?hl2 ?hr2 ?o2 ?m2 (by omega) ?base2 ?_)
      case hown2 => exact (hW1.alloc _).owns (by omega) rfl (by simp [maxLen])
      case hl2 => rfl
      case hr2 => exact (Blk.new w1 3 nmB.toArray).src 11
      case o2 => simp [nmB, Value.oneCell']
      case m2 => simp [maxLen]
      case base2 => have := hB1.size; simp; omega
      intro v2 w2 hown2 hg2 hb2
      have hA2 := (hown1.alloc (.cells nmB.toArray 3)).kept hg2 (.inr (by simpa [Value.ownBlock] using hne1))
      have hB2 := (hB1.more (.cells nmB.toArray 3)).grown hg2 (hB1.more _).size (by simp [Value.ownBlock]; omega)
      have hne2 : v2.ownBlock ≠ v1.ownBlock := by
        intro e
        rcases hb2 with e2 | e2
        · rw [e2] at e
          exact hne1 (by simpa [Value.ownBlock] using e.symm)
        · rw [e2] at e
          have := (hlt1 _ e.symm).2
          first | omega | (simp at this; omega)
      clear hown1 hW1 hg2 hb1 hb2 hne1 hlt1
      have hlt2 := hown2.lt
      go_wp2_with (at_builtin; refine wpList_app _ rfl (.tmp 27) (.tmp 28) (base := w.heap.size) (n := 36) (xs := nmA ++ nmB) (news := nmC) elem_ints rfl rfl ?hown3 rfl ?hl3 ?hr3 ?o3 ?m3 (by omega) ?base3 ?_)
      case hown3 => exact hA2.alloc _
      case hl3 => rfl
      case hr3 => exact (Blk.new w2 3 nmC.toArray).src 8
      case o3 => simp [nmC, Value.oneCell']
      case m3 => simp [maxLen]
      case base3 => have := hB2.size; simp; omega
      intro v3 w3 hown3 hg3 hb3
      have hA3 := (hown2.alloc (.cells nmC.toArray 3)).kept hg3 (.inr hne2)
      have hB3 := (hB2.more (.cells nmC.toArray 3)).grown hg3 (hB2.more _).size (fun k hk => (hA2.lt k hk).1)
      have hne3 : v3.ownBlock ≠ v2.ownBlock := by
        intro e
        rcases hb3 with e2 | e2
        · rw [e2] at e
          exact hne2 e.symm
        · rw [e2] at e
          have := (hlt2 _ e.symm).2
          first | omega | (simp at this; omega)
      clear hown2 hA2 hg3 hb3 hne2 hlt2
      go_wp2_with (at_builtin; refine wpList_app _ rfl (.tmp 30) (.tmp 31) (base := w.heap.size) (n := 36) (xs := nmA ++ nmB) (news := nmC) elem_ints rfl rfl ?hown4 rfl ?hl4 ?hr4 ?o4 ?m4 (by omega) ?base4 ?_)
      case hown4 => exact hA3.alloc _
      case hl4 => rfl
      case hr4 => exact (Blk.new w3 3 nmC.toArray).src 8
      case o4 => simp [nmC, Value.oneCell']
      case m4 => simp [maxLen]
      case base4 => have := hB3.size; simp; omega
      intro v4 w4 hown4 hg4 hb4
      have hA4 := (hown3.alloc (.cells nmC.toArray 3)).kept hg4 (.inr hne3)
      have hB4 := (hB3.more (.cells nmC.toArray 3)).grown hg4 (hB3.more _).size (fun k hk => (hA3.lt k hk).1)
      clear hown3 hA3 hg4 hb4 hne3
      obtain ⟨g1, c1, hv1, _, hs1, hcap1, hmax1, hc1⟩ := owns_cells hA4 (by omega)
      obtain ⟨g2, c2, hv2, _, hs2, hcap2, hmax2, hc2⟩ := owns_cells hown4 (by omega)
      rw [hv1, hv2]
      clear hA4 hown4 hv1 hv2
      go_wp2
      go_loopw [5] (fun i wr => ∃ k : Nat, k ≤ 44 ∧ i = .int .i64 k ∧ Below w4.heap.size w4 wr) (fun i _ => 44 - (intOf i).toNat)
      case atStart => exact ⟨0, by omega, rfl, Below.refl _ _⟩
      case round =>
        obtain ⟨k, hk4, rfl, hbr⟩ := hrel
        by_cases hlt4 : k < 44
        · have hk4' : (k : Int) < 44 := by omega
          obtain ⟨x, hx⟩ : ∃ x, (nmA ++ nmB ++ nmC)[k]? = some (.int .i64 x) := by
            have e : nmA ++ nmB ++ nmC = List.map (Value.int .i64) ([65535, 65535, 60000, 40, 255, 9, 12, 40, 40, 1000, 6, 5000, 8, 12, 100, 300, 1, 2, 3, 1, 2, 3, 4, 5, 6] ++ [0, 1, 2, 3, 4, 5, 6, 7, 8, 9, 10] ++ [1, 2, 3, 4, 5, 6, 7, 8]) := rfl
            rw [e, List.getElem?_map, List.getElem?_eq_getElem (by simpa using hlt4)]
            exact ⟨_, rfl⟩
          have c1' : wr.cell? ⟨g1, k, none⟩ = some (.int .i64 x) := (hbr.cell (p := ⟨g1, k, none⟩) hs1).trans (hc1 k _ hx)
          have c2' : wr.cell? ⟨g2, k, none⟩ = some (.int .i64 x) := (hbr.cell (p := ⟨g2, k, none⟩) hs2).trans (hc2 k _ hx)
          have HB := Lib.hid hbr
          have HX := Lib.hid hx
          clear hbr hx hc1 hc2
          go_wp2
          go_quiet (fail)
          go_wp2
          go_roundw
          case rel => exact ⟨k + 1, by omega, by go_num, below_drewN HB.out _⟩
          case measure => simp [intOf]; omega
        · obtain rfl : k = 44 := by omega
          go_wp2
          go_ret
          exact ⟨rfl, hB4.trans (hbr.mono hB4.size)⟩

theorem names_open (W : World) (_base : Nat) : Calls Try.prog 3 #[] W fun e W' => e = .returned (.bool true) ∧ Below W.heap.size W W' := names_walk W
end Go.Proofs.Ytfgiehfiieecoaa
