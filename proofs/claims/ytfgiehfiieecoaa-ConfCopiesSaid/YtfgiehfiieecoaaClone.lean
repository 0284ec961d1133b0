/- slices.Clone at the program's element types: a row of the call's own that holds what the slice holds. -/
import Derived.Test.YtfgiehfiieecoaaTypes
namespace Go.Proofs.Ytfgiehfiieecoaa
open Go.RowKit
set_option maxRecDepth 100000
theorem elem_u8 : Elem Try.prog 50 5 1 1 := elem_of Try.underlying50 (z := .int .u8 0) (by kernel_rfl) rfl (by omega)
theorem elem_ints : Elem Try.prog 24 3 1 8 := elem_of Try.underlying24 (z := .int .i64 0) (by kernel_rfl) rfl (by omega)

set_option maxHeartbeats 400000 in
theorem clone_byte (A : Option Addr) (n c : Nat) (xs : List Value) (w : World) (hl : xs.length = n * 1) (hr : Rd w (fun b => b < w.heap.size) A xs) (h1 : ∀ u ∈ xs, u.oneCell' = true) (hn : n * 1 ≤ 140737488355328) :
    Calls Try.prog 74 #[.slice A n c] w fun e w' => ∃ v, e = .returned v ∧ w'.ownsRow w.heap.size 5 1 v n xs ∧ Below w.heap.size w w' := by
  rcases A with _ | ad
  · have hxs : xs = [] := by
      cases xs with
      | nil => rfl
      | cons x r => obtain ⟨b, off, h, _⟩ := hr (by simp); cases h
    subst hxs
    obtain rfl : n = 0 := by simp at hl; omega
    have hnil := fun W : World => Lib.run_eql_slice_nil (P := Try.prog) W 50 _ none 0 c 0 0 Try.underlying50
    go_enter Try.func74, Try.ntmps74
    go_wp2
    go_ret
    exact ⟨_, rfl, World.ownsRow_nil _ _ _ _, rf_ _⟩
  · have hnil := fun W : World => Lib.run_eql_slice_nil (P := Try.prog) W 50 _ (some ad) n c 0 0 Try.underlying50
    have HS := Lib.hid hr
    have HL := Lib.hid hl
    clear hr hl
    go_enter Try.func74, Try.ntmps74
    go_wp2_with (at_builtin; refine wpList_app _ rfl (.tmp 5) (.tmp 6) (base := w.heap.size) (n := 0) (xs := []) (news := xs) elem_u8 rfl rfl ?hown rfl ?hl1 ?hr1 h1 ?hm (by omega) ?hbase ?_)
    case hown => exact (Blk.new w 5 #[]).owns (n := 0) (Nat.le_refl _) rfl (Nat.zero_le _)
    case hl1 => exact HL.out
    case hr1 => exact (HS.out.below (al_ w _) (fun _ h => h)).src n (fun h0 h => by have := HL.out; rw [h] at this; simp at this; omega)
    case hm => simp [maxLen]; omega
    case hbase => simp
    intro v' w' hown hg _
    have hb := (al_ w (.cells #[] 5)).grown hg (by simp) (by simp [Value.ownBlock])
    go_wp2
    go_ret
    exact ⟨_, rfl, by simpa using hown, hb⟩


set_option maxHeartbeats 400000 in
theorem clone_sw (A : Option Addr) (n c : Nat) (xs : List Value) (w : World) (hl : xs.length = n * 3) (hr : Rd w (fun b => b < w.heap.size) A xs) (h1 : ∀ u ∈ xs, u.oneCell' = true) (hn : n * 24 ≤ 140737488355328) :
    Calls Try.prog 85 #[.slice A n c] w fun e w' => ∃ v, e = .returned v ∧ w'.ownsRow w.heap.size 84 3 v n xs ∧ Below w.heap.size w w' := by
  rcases A with _ | ad
  · have hxs : xs = [] := by
      cases xs with
      | nil => rfl
      | cons x r => obtain ⟨b, off, h, _⟩ := hr (by simp); cases h
    subst hxs
    obtain rfl : n = 0 := by simp at hl; omega
    have hnil := fun W : World => Lib.run_eql_slice_nil (P := Try.prog) W 31 _ none 0 c 0 0 Try.underlying31
    go_enter Try.func85, Try.ntmps85
    go_wp2
    go_ret
    exact ⟨_, rfl, World.ownsRow_nil _ _ _ _, rf_ _⟩
  · have hnil := fun W : World => Lib.run_eql_slice_nil (P := Try.prog) W 31 _ (some ad) n c 0 0 Try.underlying31
    have HS := Lib.hid hr
    have HL := Lib.hid hl
    clear hr hl
    go_enter Try.func85, Try.ntmps85
    go_wp2_with (at_builtin; refine wpList_app _ rfl (.tmp 5) (.tmp 6) (base := w.heap.size) (n := 0) (xs := []) (news := xs) elem_sw rfl rfl ?hown rfl ?hl1 ?hr1 h1 ?hm (by omega) ?hbase ?_)
    case hown => exact (Blk.new w 84 #[]).owns (n := 0) (Nat.le_refl _) rfl (Nat.zero_le _)
    case hl1 => exact HL.out
    case hr1 => exact (HS.out.below (al_ w _) (fun _ h => h)).src n (fun h0 h => by have := HL.out; rw [h] at this; simp at this; omega)
    case hm => simp [maxLen]; omega
    case hbase => simp
    intro v' w' hown hg _
    have hb := (al_ w (.cells #[] 84)).grown hg (by simp) (by simp [Value.ownBlock])
    go_wp2
    go_ret
    exact ⟨_, rfl, by simpa using hown, hb⟩


set_option maxHeartbeats 400000 in
theorem clone_po (A : Option Addr) (n c : Nat) (xs : List Value) (w : World) (hl : xs.length = n * 5) (hr : Rd w (fun b => b < w.heap.size) A xs) (h1 : ∀ u ∈ xs, u.oneCell' = true) (hn : n * 40 ≤ 140737488355328) :
    Calls Try.prog 79 #[.slice A n c] w fun e w' => ∃ v, e = .returned v ∧ w'.ownsRow w.heap.size 86 5 v n xs ∧ Below w.heap.size w w' := by
  rcases A with _ | ad
  · have hxs : xs = [] := by
      cases xs with
      | nil => rfl
      | cons x r => obtain ⟨b, off, h, _⟩ := hr (by simp); cases h
    subst hxs
    obtain rfl : n = 0 := by simp at hl; omega
    have hnil := fun W : World => Lib.run_eql_slice_nil (P := Try.prog) W 32 _ none 0 c 0 0 Try.underlying32
    go_enter Try.func79, Try.ntmps79
    go_wp2
    go_ret
    exact ⟨_, rfl, World.ownsRow_nil _ _ _ _, rf_ _⟩
  · have hnil := fun W : World => Lib.run_eql_slice_nil (P := Try.prog) W 32 _ (some ad) n c 0 0 Try.underlying32
    have HS := Lib.hid hr
    have HL := Lib.hid hl
    clear hr hl
    go_enter Try.func79, Try.ntmps79
    go_wp2_with (at_builtin; refine wpList_app _ rfl (.tmp 5) (.tmp 6) (base := w.heap.size) (n := 0) (xs := []) (news := xs) elem_po rfl rfl ?hown rfl ?hl1 ?hr1 h1 ?hm (by omega) ?hbase ?_)
    case hown => exact (Blk.new w 86 #[]).owns (n := 0) (Nat.le_refl _) rfl (Nat.zero_le _)
    case hl1 => exact HL.out
    case hr1 => exact (HS.out.below (al_ w _) (fun _ h => h)).src n (fun h0 h => by have := HL.out; rw [h] at this; simp at this; omega)
    case hm => simp [maxLen]; omega
    case hbase => simp
    intro v' w' hown hg _
    have hb := (al_ w (.cells #[] 86)).grown hg (by simp) (by simp [Value.ownBlock])
    go_wp2
    go_ret
    exact ⟨_, rfl, by simpa using hown, hb⟩


set_option maxHeartbeats 400000 in
theorem clone_ac (A : Option Addr) (n c : Nat) (xs : List Value) (w : World) (hl : xs.length = n * 9) (hr : Rd w (fun b => b < w.heap.size) A xs) (h1 : ∀ u ∈ xs, u.oneCell' = true) (hn : n * 72 ≤ 140737488355328) :
    Calls Try.prog 86 #[.slice A n c] w fun e w' => ∃ v, e = .returned v ∧ w'.ownsRow w.heap.size 88 9 v n xs ∧ Below w.heap.size w w' := by
  rcases A with _ | ad
  · have hxs : xs = [] := by
      cases xs with
      | nil => rfl
      | cons x r => obtain ⟨b, off, h, _⟩ := hr (by simp); cases h
    subst hxs
    obtain rfl : n = 0 := by simp at hl; omega
    have hnil := fun W : World => Lib.run_eql_slice_nil (P := Try.prog) W 33 _ none 0 c 0 0 Try.underlying33
    go_enter Try.func86, Try.ntmps86
    go_wp2
    go_ret
    exact ⟨_, rfl, World.ownsRow_nil _ _ _ _, rf_ _⟩
  · have hnil := fun W : World => Lib.run_eql_slice_nil (P := Try.prog) W 33 _ (some ad) n c 0 0 Try.underlying33
    have HS := Lib.hid hr
    have HL := Lib.hid hl
    clear hr hl
    go_enter Try.func86, Try.ntmps86
    go_wp2_with (at_builtin; refine wpList_app _ rfl (.tmp 5) (.tmp 6) (base := w.heap.size) (n := 0) (xs := []) (news := xs) elem_ac rfl rfl ?hown rfl ?hl1 ?hr1 h1 ?hm (by omega) ?hbase ?_)
    case hown => exact (Blk.new w 88 #[]).owns (n := 0) (Nat.le_refl _) rfl (Nat.zero_le _)
    case hl1 => exact HL.out
    case hr1 => exact (HS.out.below (al_ w _) (fun _ h => h)).src n (fun h0 h => by have := HL.out; rw [h] at this; simp at this; omega)
    case hm => simp [maxLen]; omega
    case hbase => simp
    intro v' w' hown hg _
    have hb := (al_ w (.cells #[] 88)).grown hg (by simp) (by simp [Value.ownBlock])
    go_wp2
    go_ret
    exact ⟨_, rfl, by simpa using hown, hb⟩


set_option maxHeartbeats 400000 in
theorem clone_mt (A : Option Addr) (n c : Nat) (xs : List Value) (w : World) (hl : xs.length = n * 3) (hr : Rd w (fun b => b < w.heap.size) A xs) (h1 : ∀ u ∈ xs, u.oneCell' = true) (hn : n * 24 ≤ 140737488355328) :
    Calls Try.prog 108 #[.slice A n c] w fun e w' => ∃ v, e = .returned v ∧ w'.ownsRow w.heap.size 69 3 v n xs ∧ Below w.heap.size w w' := by
  rcases A with _ | ad
  · have hxs : xs = [] := by
      cases xs with
      | nil => rfl
      | cons x r => obtain ⟨b, off, h, _⟩ := hr (by simp); cases h
    subst hxs
    obtain rfl : n = 0 := by simp at hl; omega
    have hnil := fun W : World => Lib.run_eql_slice_nil (P := Try.prog) W 70 _ none 0 c 0 0 Try.underlying70
    go_enter Try.func108, Try.ntmps108
    go_wp2
    go_ret
    exact ⟨_, rfl, World.ownsRow_nil _ _ _ _, rf_ _⟩
  · have hnil := fun W : World => Lib.run_eql_slice_nil (P := Try.prog) W 70 _ (some ad) n c 0 0 Try.underlying70
    have HS := Lib.hid hr
    have HL := Lib.hid hl
    clear hr hl
    go_enter Try.func108, Try.ntmps108
    go_wp2_with (at_builtin; refine wpList_app _ rfl (.tmp 5) (.tmp 6) (base := w.heap.size) (n := 0) (xs := []) (news := xs) elem_mt rfl rfl ?hown rfl ?hl1 ?hr1 h1 ?hm (by omega) ?hbase ?_)
    case hown => exact (Blk.new w 69 #[]).owns (n := 0) (Nat.le_refl _) rfl (Nat.zero_le _)
    case hl1 => exact HL.out
    case hr1 => exact (HS.out.below (al_ w _) (fun _ h => h)).src n (fun h0 h => by have := HL.out; rw [h] at this; simp at this; omega)
    case hm => simp [maxLen]; omega
    case hbase => simp
    intro v' w' hown hg _
    have hb := (al_ w (.cells #[] 69)).grown hg (by simp) (by simp [Value.ownBlock])
    go_wp2
    go_ret
    exact ⟨_, rfl, by simpa using hown, hb⟩


set_option maxHeartbeats 400000 in
theorem clone_ds (A : Option Addr) (n c : Nat) (xs : List Value) (w : World) (hl : xs.length = n * 3) (hr : Rd w (fun b => b < w.heap.size) A xs) (h1 : ∀ u ∈ xs, u.oneCell' = true) (hn : n * 24 ≤ 140737488355328) :
    Calls Try.prog 109 #[.slice A n c] w fun e w' => ∃ v, e = .returned v ∧ w'.ownsRow w.heap.size 72 3 v n xs ∧ Below w.heap.size w w' := by
  rcases A with _ | ad
  · have hxs : xs = [] := by
      cases xs with
      | nil => rfl
      | cons x r => obtain ⟨b, off, h, _⟩ := hr (by simp); cases h
    subst hxs
    obtain rfl : n = 0 := by simp at hl; omega
    have hnil := fun W : World => Lib.run_eql_slice_nil (P := Try.prog) W 73 _ none 0 c 0 0 Try.underlying73
    go_enter Try.func109, Try.ntmps109
    go_wp2
    go_ret
    exact ⟨_, rfl, World.ownsRow_nil _ _ _ _, rf_ _⟩
  · have hnil := fun W : World => Lib.run_eql_slice_nil (P := Try.prog) W 73 _ (some ad) n c 0 0 Try.underlying73
    have HS := Lib.hid hr
    have HL := Lib.hid hl
    clear hr hl
    go_enter Try.func109, Try.ntmps109
    go_wp2_with (at_builtin; refine wpList_app _ rfl (.tmp 5) (.tmp 6) (base := w.heap.size) (n := 0) (xs := []) (news := xs) elem_ds rfl rfl ?hown rfl ?hl1 ?hr1 h1 ?hm (by omega) ?hbase ?_)
    case hown => exact (Blk.new w 72 #[]).owns (n := 0) (Nat.le_refl _) rfl (Nat.zero_le _)
    case hl1 => exact HL.out
    case hr1 => exact (HS.out.below (al_ w _) (fun _ h => h)).src n (fun h0 h => by have := HL.out; rw [h] at this; simp at this; omega)
    case hm => simp [maxLen]; omega
    case hbase => simp
    intro v' w' hown hg _
    have hb := (al_ w (.cells #[] 72)).grown hg (by simp) (by simp [Value.ownBlock])
    go_wp2
    go_ret
    exact ⟨_, rfl, by simpa using hown, hb⟩

end Go.Proofs.Ytfgiehfiieecoaa
