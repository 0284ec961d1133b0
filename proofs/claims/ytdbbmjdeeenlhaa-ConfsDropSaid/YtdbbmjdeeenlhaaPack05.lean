/- Walks of wire's small functions. -/
import Derived.Test.YtdbbmjdeeenlhaaRows
import Derived.Test.YtdbbmjdeeenlhaaPack03
import Derived.WalkKit
import Derived.WalkSpells
import Derived.WalkLawsBesides
import Derived.Lib.Hide
set_option linter.unusedSimpArgs false
set_option linter.unusedVariables false
namespace Go.Proofs.Ytdbbmjdeeenlhaa
open Go.RowKit

set_option maxHeartbeats 400000 in
theorem wire_word (n : Int) (w : World) :
    Calls Try.prog 92 #[.int .i64 n] w fun e w' => e = .returned (.bool (word n)) ∧ w = w' := by
  unfold word
  by_cases h1 : 0 ≤ n <;> by_cases h2 : n ≤ 65535 <;> (
  go_enter Try.func92, Try.ntmps92
  go_wp2
  go_ret
  exact ⟨ret_bool (by simp [h1, h2]), rfl⟩)

set_option maxHeartbeats 400000 in
theorem wire_Check (a0 a1 a2 a3 a4 a5 a6 : Int) (s : ByteArray) (w : World) :
    Calls Try.prog 84 #[.agg #[.int .i64 a0, .int .i64 a1, .int .i64 a2, .int .i64 a3, .int .i64 a4, .int .i64 a5, .int .i64 a6, .string s]] w fun e w' => e = .returned (.int .i64 (frameFault ⟨a0, a1, a2, a3, a4, a5, a6, s⟩)) ∧ Below w.heap.size w w' := by
  go_enter Try.func84, Try.ntmps84
  go_wp2_with (go_at_call 92; refine (wire_word _ _).mono ?_; rintro e w' ⟨rfl, rfl⟩)
  all_goals (go_ret; refine ⟨ret_int ?_, by repeat (first | exact Below.refl _ _ | apply Below.alloc | exact Nat.le_refl _)⟩)
  all_goals (first | simp only [toList_isEmpty] at * | skip)
  all_goals (first | (simp [frameFault, *]; done) | (simp [frameFault, *]; omega) | (simp_all [frameFault]; done) | (simp_all [frameFault]; omega))
end Go.Proofs.Ytdbbmjdeeenlhaa

/- Walks of the reference's FrameFault. -/
namespace Go.Proofs.Ytdbbmjdeeenlhaa
open Go.RowKit

set_option maxHeartbeats 400000 in
theorem ref_In (n lo hi : Int) (w : World) :
    Calls Try.prog 51 #[.int .i64 n, .int .i64 lo, .int .i64 hi] w fun e w' => e = .returned (.bool (inR n lo hi)) ∧ w = w' := by
  by_cases h1 : lo ≤ n <;> by_cases h2 : n ≤ hi <;> (
  go_enter Try.func51, Try.ntmps51
  go_wp2
  go_ret
  exact ⟨ret_bool (by simp [inR, h1, h2]), rfl⟩)

set_option maxHeartbeats 400000 in
theorem ref_FrameFault (a0 a1 a2 a3 a4 a5 a6 : Int) (s : ByteArray) (w : World) :
    Calls Try.prog 53 #[.agg #[.int .i64 a0, .int .i64 a1, .int .i64 a2, .int .i64 a3, .int .i64 a4, .int .i64 a5, .int .i64 a6, .string s]] w fun e w' => e = .returned (.int .i64 (frameFault ⟨a0, a1, a2, a3, a4, a5, a6, s⟩)) ∧ Below w.heap.size w w' := by
  by_cases hk0 : inR a2 1 3 = true
  case neg =>
    have hkf : inR a2 1 3 = false := by simpa using hk0
    clear hk0
    go_enter Try.func53, Try.ntmps53
    go_wp2_with (go_at_call 51; refine (ref_In _ _ _ _).mono ?_; rintro e w' ⟨rfl, rfl⟩)
    go_ret
    refine ⟨ret_int ?_, (Below.refl _ _).alloc (Nat.le_refl _) _⟩
    rw [inR_not] at hkf
    unfold frameFault
    rw [if_pos (by dsimp only; omega)]
  case pos =>
    have hk := inR_iff.1 hk0
    go_enter Try.func53, Try.ntmps53
    go_wp2_with (go_at_call 51; refine (ref_In _ _ _ _).mono ?_; rintro e w' ⟨rfl, rfl⟩)
    go_loop [4] (fun i => ∃ k : Nat, k ≤ 5 ∧ i = .int .i64 k ∧ Hid (∀ j, j < k → word ([a0, a1, a3, a4, a6].getD j 0) = true)) (fun i => 5 - (intOf i).toNat)
    case atStart => exact ⟨0, by omega, rfl, fun j h => absurd h (Nat.not_lt_zero _)⟩
    case round =>
      obtain ⟨k, hk5, rfl, H⟩ := hrel
      by_cases hlt : k < 5
      · obtain ⟨x, hx⟩ : ∃ x, [a0, a1, a3, a4, a6][k]? = some x := ⟨_, List.getElem?_eq_getElem (by simpa using hlt)⟩
        have hcell : ([Value.int .i64 a0, .int .i64 a1, .int .i64 a3, .int .i64 a4, .int .i64 a6] : List Value)[k]'(by simpa using hlt) = .int .i64 x := by
          have e : (List.map (Value.int .i64) [a0, a1, a3, a4, a6])[k]? = some (.int .i64 x) := by rw [List.getElem?_map, hx]; rfl
          exact (List.getElem?_eq_some_iff.1 e).2
        have HX := Lib.hid hx
        clear hx
        go_wp2_with (go_at_call 51; refine (ref_In _ _ _ _).mono ?_; rintro e w' ⟨rfl, rfl⟩)
        · go_ret
          refine ⟨ret_int ?_, ((Below.refl _ _).alloc (Nat.le_refl _) _).alloc (by simp) _⟩
          have hx := HX.out
          have hb : inR x 0 65535 = false := by simp_all
          rw [inR_word] at hb
          have hm : word a0 = false ∨ word a1 = false ∨ word a3 = false ∨ word a4 = false ∨ word a6 = false := by
            rcases (by omega : k = 0 ∨ k = 1 ∨ k = 2 ∨ k = 3 ∨ k = 4) with rfl | rfl | rfl | rfl | rfl <;> (simp at hx; subst hx; simp [hb])
          unfold frameFault
          rw [if_neg (by dsimp only; omega), if_pos (by dsimp only; rcases hm with h | h | h | h | h <;> simp [h])]
        · go_round
          case rel =>
            refine ⟨k + 1, by omega, by go_num, ?_⟩
            intro j hj
            rcases Nat.lt_succ_iff_lt_or_eq.1 hj with h | rfl
            · exact H.out j h
            · have hx := HX.out
              have hb : inR x 0 65535 = true := by simp_all
              rw [List.getD_eq_getElem?_getD, hx]
              exact hb
          case measure => simp [intOf]; omega
      · have w0 : word a0 = true := H.out 0 (by omega)
        have w1 : word a1 = true := H.out 1 (by omega)
        have w3 : word a3 = true := H.out 2 (by omega)
        have w4 : word a4 = true := H.out 3 (by omega)
        have w6 : word a6 = true := H.out 4 (by omega)
        have h6 : 0 ≤ a6 := (word_iff.1 w6).1
        clear w0 w1 w3 w4 w6
        have hg : frameFault ⟨a0, a1, a2, a3, a4, a5, a6, s⟩ = if a5 < 0 ∨ 255 < a5 then 2 else if 40 < s.size then 1 else if a2 ≠ 3 ∧ (a5 ≠ 0 ∨ a6 ≠ 0 ∨ s.size ≠ 0) then 4 else 0 := by
          unfold frameFault
          rw [if_neg (by dsimp only; omega)]
          have w0 : word a0 = true := H.out 0 (by omega)
          have w1 : word a1 = true := H.out 1 (by omega)
          have w3 : word a3 = true := H.out 2 (by omega)
          have w4 : word a4 = true := H.out 3 (by omega)
          have w6 : word a6 = true := H.out 4 (by omega)
          simp [w0, w1, w3, w4, w6]
        have HG := Lib.hid hg
        clear hg H
        by_cases h5 : inR a5 0 255 = true
        · have h5' := inR_iff.1 h5
          by_cases hs : (s.size : Int) ≤ 40
          · by_cases h3 : (a2 != 3) = true
            · have h3' : a2 ≠ 3 := by simpa using h3
              by_cases ha5 : 0 < a5
              · go_wp2_with (go_at_call 51; refine (ref_In _ _ _ _).mono ?_; rintro e w' ⟨rfl, rfl⟩)
                go_ret
                exact ⟨ret_int (by rw [HG.out, if_neg (by omega), if_neg (by omega), if_pos ⟨h3', .inl (by omega)⟩]), ((Below.refl _ _).alloc (Nat.le_refl _) _).alloc (by simp) _⟩
              · by_cases ha6 : 0 < a6
                · go_wp2_with (go_at_call 51; refine (ref_In _ _ _ _).mono ?_; rintro e w' ⟨rfl, rfl⟩)
                  go_ret
                  exact ⟨ret_int (by rw [HG.out, if_neg (by omega), if_neg (by omega), if_pos ⟨h3', .inr (.inl (by omega))⟩]), ((Below.refl _ _).alloc (Nat.le_refl _) _).alloc (by simp) _⟩
                · by_cases hs0 : 0 < (s.size : Int)
                  · go_wp2_with (go_at_call 51; refine (ref_In _ _ _ _).mono ?_; rintro e w' ⟨rfl, rfl⟩)
                    go_ret
                    exact ⟨ret_int (by rw [HG.out, if_neg (by omega), if_neg (by omega), if_pos ⟨h3', .inr (.inr (by omega))⟩]), ((Below.refl _ _).alloc (Nat.le_refl _) _).alloc (by simp) _⟩
                  · go_wp2_with (go_at_call 51; refine (ref_In _ _ _ _).mono ?_; rintro e w' ⟨rfl, rfl⟩)
                    go_ret
                    exact ⟨ret_int (by rw [HG.out, if_neg (by omega), if_neg (by omega), if_neg (by omega)]), ((Below.refl _ _).alloc (Nat.le_refl _) _).alloc (by simp) _⟩
            · have h3' : a2 = 3 := by simpa using h3
              have h3'' : (a2 != 3) = false := by simpa using h3
              go_wp2_with (go_at_call 51; refine (ref_In _ _ _ _).mono ?_; rintro e w' ⟨rfl, rfl⟩)
              go_ret
              exact ⟨ret_int (by rw [HG.out, if_neg (by omega), if_neg (by omega), if_neg (by omega)]), ((Below.refl _ _).alloc (Nat.le_refl _) _).alloc (by simp) _⟩
          · go_wp2_with (go_at_call 51; refine (ref_In _ _ _ _).mono ?_; rintro e w' ⟨rfl, rfl⟩)
            go_ret
            exact ⟨ret_int (by rw [HG.out, if_neg (by omega), if_pos (by omega)]), ((Below.refl _ _).alloc (Nat.le_refl _) _).alloc (by simp) _⟩
        · have h5f : inR a5 0 255 = false := by simpa using h5
          have h5' := inR_not.1 h5f
          go_wp2_with (go_at_call 51; refine (ref_In _ _ _ _).mono ?_; rintro e w' ⟨rfl, rfl⟩)
          go_ret
          exact ⟨ret_int (by rw [HG.out, if_pos (by omega)]), ((Below.refl _ _).alloc (Nat.le_refl _) _).alloc (by simp) _⟩
end Go.Proofs.Ytdbbmjdeeenlhaa

/- Walks of CheckPacket and of the reference's PacketFault. -/
namespace Go.Proofs.Ytdbbmjdeeenlhaa
open Go.RowKit

set_option maxHeartbeats 400000 in
theorem flow_word (n : Int) (w : World) :
    Calls Try.prog 105 #[.int .i64 n] w fun e w' => e = .returned (.bool (word n)) ∧ w = w' := by
  unfold word
  by_cases h1 : 0 ≤ n <;> by_cases h2 : n ≤ 65535 <;> (
  go_enter Try.func105, Try.ntmps105
  go_wp2
  go_ret
  exact ⟨ret_bool (by simp [h1, h2]), rfl⟩)

theorem index_ten0 (a0 a1 a2 a3 a4 a5 a6 a7 a8 a9 : Int) (w : World) : (Instr.index 22 (.agg #[.int .i64 a0, .int .i64 a1, .int .i64 a2, .int .i64 a3, .int .i64 a4, .int .i64 a5, .int .i64 a6, .int .i64 a7, .int .i64 a8, .int .i64 a9]) (.int .i64 ((0 : Nat) : Int))).run Try.prog w = .ok (.int .i64 a0) w := by kernel_rfl
theorem index_ten1 (a0 a1 a2 a3 a4 a5 a6 a7 a8 a9 : Int) (w : World) : (Instr.index 22 (.agg #[.int .i64 a0, .int .i64 a1, .int .i64 a2, .int .i64 a3, .int .i64 a4, .int .i64 a5, .int .i64 a6, .int .i64 a7, .int .i64 a8, .int .i64 a9]) (.int .i64 ((1 : Nat) : Int))).run Try.prog w = .ok (.int .i64 a1) w := by kernel_rfl
theorem index_ten2 (a0 a1 a2 a3 a4 a5 a6 a7 a8 a9 : Int) (w : World) : (Instr.index 22 (.agg #[.int .i64 a0, .int .i64 a1, .int .i64 a2, .int .i64 a3, .int .i64 a4, .int .i64 a5, .int .i64 a6, .int .i64 a7, .int .i64 a8, .int .i64 a9]) (.int .i64 ((2 : Nat) : Int))).run Try.prog w = .ok (.int .i64 a2) w := by kernel_rfl
theorem index_ten3 (a0 a1 a2 a3 a4 a5 a6 a7 a8 a9 : Int) (w : World) : (Instr.index 22 (.agg #[.int .i64 a0, .int .i64 a1, .int .i64 a2, .int .i64 a3, .int .i64 a4, .int .i64 a5, .int .i64 a6, .int .i64 a7, .int .i64 a8, .int .i64 a9]) (.int .i64 ((3 : Nat) : Int))).run Try.prog w = .ok (.int .i64 a3) w := by kernel_rfl
theorem index_ten4 (a0 a1 a2 a3 a4 a5 a6 a7 a8 a9 : Int) (w : World) : (Instr.index 22 (.agg #[.int .i64 a0, .int .i64 a1, .int .i64 a2, .int .i64 a3, .int .i64 a4, .int .i64 a5, .int .i64 a6, .int .i64 a7, .int .i64 a8, .int .i64 a9]) (.int .i64 ((4 : Nat) : Int))).run Try.prog w = .ok (.int .i64 a4) w := by kernel_rfl
theorem index_ten5 (a0 a1 a2 a3 a4 a5 a6 a7 a8 a9 : Int) (w : World) : (Instr.index 22 (.agg #[.int .i64 a0, .int .i64 a1, .int .i64 a2, .int .i64 a3, .int .i64 a4, .int .i64 a5, .int .i64 a6, .int .i64 a7, .int .i64 a8, .int .i64 a9]) (.int .i64 ((5 : Nat) : Int))).run Try.prog w = .ok (.int .i64 a5) w := by kernel_rfl
theorem index_ten6 (a0 a1 a2 a3 a4 a5 a6 a7 a8 a9 : Int) (w : World) : (Instr.index 22 (.agg #[.int .i64 a0, .int .i64 a1, .int .i64 a2, .int .i64 a3, .int .i64 a4, .int .i64 a5, .int .i64 a6, .int .i64 a7, .int .i64 a8, .int .i64 a9]) (.int .i64 ((6 : Nat) : Int))).run Try.prog w = .ok (.int .i64 a6) w := by kernel_rfl
theorem index_ten7 (a0 a1 a2 a3 a4 a5 a6 a7 a8 a9 : Int) (w : World) : (Instr.index 22 (.agg #[.int .i64 a0, .int .i64 a1, .int .i64 a2, .int .i64 a3, .int .i64 a4, .int .i64 a5, .int .i64 a6, .int .i64 a7, .int .i64 a8, .int .i64 a9]) (.int .i64 ((7 : Nat) : Int))).run Try.prog w = .ok (.int .i64 a7) w := by kernel_rfl
theorem index_ten8 (a0 a1 a2 a3 a4 a5 a6 a7 a8 a9 : Int) (w : World) : (Instr.index 22 (.agg #[.int .i64 a0, .int .i64 a1, .int .i64 a2, .int .i64 a3, .int .i64 a4, .int .i64 a5, .int .i64 a6, .int .i64 a7, .int .i64 a8, .int .i64 a9]) (.int .i64 ((8 : Nat) : Int))).run Try.prog w = .ok (.int .i64 a8) w := by kernel_rfl
theorem index_ten9 (a0 a1 a2 a3 a4 a5 a6 a7 a8 a9 : Int) (w : World) : (Instr.index 22 (.agg #[.int .i64 a0, .int .i64 a1, .int .i64 a2, .int .i64 a3, .int .i64 a4, .int .i64 a5, .int .i64 a6, .int .i64 a7, .int .i64 a8, .int .i64 a9]) (.int .i64 ((9 : Nat) : Int))).run Try.prog w = .ok (.int .i64 a9) w := by kernel_rfl
theorem index_ten (a0 a1 a2 a3 a4 a5 a6 a7 a8 a9 x : Int) (k : Nat) (h : [a0, a1, a2, a3, a4, a5, a6, a7, a8, a9][k]? = some x) (w : World) :
    (Instr.index 22 (.agg #[.int .i64 a0, .int .i64 a1, .int .i64 a2, .int .i64 a3, .int .i64 a4, .int .i64 a5, .int .i64 a6, .int .i64 a7, .int .i64 a8, .int .i64 a9]) (.int .i64 (k : Int))).run Try.prog w = .ok (.int .i64 x) w := by
  have hk : k < 10 := by
    rcases Nat.lt_or_ge k 10 with h' | h'
    · exact h'
    · rw [List.getElem?_eq_none (by simpa using h')] at h
      cases h
  rcases (by omega : k = 0 ∨ k = 1 ∨ k = 2 ∨ k = 3 ∨ k = 4 ∨ k = 5 ∨ k = 6 ∨ k = 7 ∨ k = 8 ∨ k = 9) with rfl | rfl | rfl | rfl | rfl | rfl | rfl | rfl | rfl | rfl
  · obtain rfl := Option.some.inj h
    exact index_ten0 _ _ _ _ _ _ _ _ _ _ w
  · obtain rfl := Option.some.inj h
    exact index_ten1 _ _ _ _ _ _ _ _ _ _ w
  · obtain rfl := Option.some.inj h
    exact index_ten2 _ _ _ _ _ _ _ _ _ _ w
  · obtain rfl := Option.some.inj h
    exact index_ten3 _ _ _ _ _ _ _ _ _ _ w
  · obtain rfl := Option.some.inj h
    exact index_ten4 _ _ _ _ _ _ _ _ _ _ w
  · obtain rfl := Option.some.inj h
    exact index_ten5 _ _ _ _ _ _ _ _ _ _ w
  · obtain rfl := Option.some.inj h
    exact index_ten6 _ _ _ _ _ _ _ _ _ _ w
  · obtain rfl := Option.some.inj h
    exact index_ten7 _ _ _ _ _ _ _ _ _ _ w
  · obtain rfl := Option.some.inj h
    exact index_ten8 _ _ _ _ _ _ _ _ _ _ w
  · obtain rfl := Option.some.inj h
    exact index_ten9 _ _ _ _ _ _ _ _ _ _ w

/-- All of ten are words, or one is none: what a loop over them knows. -/
theorem all_upto {α : Type} {p : α → Bool} {l : List α} (h : ∀ (j : Nat) (x : α), l[j]? = some x → p x = true) : l.all p = true := by
  rw [List.all_eq_true]
  intro x hx
  obtain ⟨j, hj, rfl⟩ := List.getElem_of_mem hx
  exact h j _ (List.getElem?_eq_getElem hj)
theorem all_not {α : Type} {p : α → Bool} {l : List α} {j : Nat} {x : α} (h : l[j]? = some x) (hp : p x = false) : l.all p = false := by
  rw [List.all_eq_false]
  exact ⟨x, List.mem_of_getElem? h, by simp [hp]⟩

set_option maxHeartbeats 400000 in
theorem flow_CheckPacket (a0 a1 a2 a3 a4 a5 a6 a7 a8 a9 : Int) (s : ByteArray) (w : World) :
    Calls Try.prog 59 #[.agg #[.int .i64 a0, .int .i64 a1, .int .i64 a2, .int .i64 a3, .int .i64 a4, .int .i64 a5, .int .i64 a6, .int .i64 a7, .int .i64 a8, .int .i64 a9, .string s]] w fun e w' => e = .returned (.int .i64 (packetFault ⟨a0, a1, a2, a3, a4, a5, a6, a7, a8, a9, s⟩)) ∧ Below w.heap.size w w' := by
  go_enter Try.func59, Try.ntmps59
  go_wp2
  go_loop [7] (fun i => ∃ k : Nat, k ≤ 10 ∧ i = .int .i64 k ∧ Hid (∀ j x, j < k → [a0, a1, a2, a3, a4, a5, a6, a7, a8, a9][j]? = some x → word x = true)) (fun i => 10 - (intOf i).toNat)
  case atStart => exact ⟨0, by omega, rfl, fun j x h => absurd h (Nat.not_lt_zero _)⟩
  case round =>
    obtain ⟨k, hk, rfl, H⟩ := hrel
    by_cases hlt : k < 10
    · obtain ⟨x, hx⟩ : ∃ x, [a0, a1, a2, a3, a4, a5, a6, a7, a8, a9][k]? = some x := ⟨_, List.getElem?_eq_getElem (by simpa using hlt)⟩
      have hix := index_ten a0 a1 a2 a3 a4 a5 a6 a7 a8 a9 x k hx
      have HX := Lib.hid hx
      clear hx
      by_cases hw : word x = true
      · go_wp2_with (go_at_call 105; refine (flow_word _ _).mono ?_; rintro e w' ⟨rfl, rfl⟩)
        go_round
        case rel =>
          refine ⟨k + 1, by omega, by go_num, ?_⟩
          intro j y hj hy
          rcases Nat.lt_succ_iff_lt_or_eq.1 hj with h | rfl
          · exact H.out j y h hy
          · have := HX.out.symm.trans hy
            simp at this
            rw [← this]
            exact hw
        case measure => simp [intOf]; omega
      · have hwf : word x = false := by simpa using hw
        clear hw
        go_wp2_with (go_at_call 105; refine (flow_word _ _).mono ?_; rintro e w' ⟨rfl, rfl⟩)
        go_ret
        refine ⟨ret_int ?_, al_ _ _⟩
        have : packetFault ⟨a0, a1, a2, a3, a4, a5, a6, a7, a8, a9, s⟩ = 2 := by
          unfold packetFault
          rw [if_neg]
          have := all_not (p := word) HX.out hwf
          simpa [Pk.fields] using this
        exact this.symm
    · have hall : List.all [a0, a1, a2, a3, a4, a5, a6, a7, a8, a9] word = true := all_upto (fun j x hj => H.out j x (by
        have := (List.getElem?_eq_some_iff.1 hj).1
        simp at this
        omega) hj)
      have HG : Hid (packetFault ⟨a0, a1, a2, a3, a4, a5, a6, a7, a8, a9, s⟩ = if 40 < s.size then 1 else 0) := by
        show packetFault _ = _
        unfold packetFault
        exact if_pos hall
      clear hall H
      by_cases hs : (s.size : Int) ≤ 40
      all_goals
        go_wp2
        go_ret
        refine ⟨ret_int ?_, al_ _ _⟩
        rw [HG.out]
        first | rw [if_neg (by omega)] | rw [if_pos (by omega)]
set_option maxHeartbeats 400000 in
theorem ref_PacketFault (a0 a1 a2 a3 a4 a5 a6 a7 a8 a9 : Int) (s : ByteArray) (w : World) :
    Calls Try.prog 140 #[.agg #[.int .i64 a0, .int .i64 a1, .int .i64 a2, .int .i64 a3, .int .i64 a4, .int .i64 a5, .int .i64 a6, .int .i64 a7, .int .i64 a8, .int .i64 a9, .string s]] w fun e w' => e = .returned (.int .i64 (packetFault ⟨a0, a1, a2, a3, a4, a5, a6, a7, a8, a9, s⟩)) ∧ Below w.heap.size w w' := by
  go_enter Try.func140, Try.ntmps140
  go_wp2
  go_loop [3] (fun i => ∃ k : Nat, k ≤ 10 ∧ i = .int .i64 k ∧ Hid (∀ j x, j < k → [a0, a1, a2, a3, a4, a5, a6, a7, a8, a9][j]? = some x → word x = true)) (fun i => 10 - (intOf i).toNat)
  case atStart => exact ⟨0, by omega, rfl, fun j x h => absurd h (Nat.not_lt_zero _)⟩
  case round =>
    obtain ⟨k, hk, rfl, H⟩ := hrel
    by_cases hlt : k < 10
    · obtain ⟨x, hx⟩ : ∃ x, [a0, a1, a2, a3, a4, a5, a6, a7, a8, a9][k]? = some x := ⟨_, List.getElem?_eq_getElem (by simpa using hlt)⟩
      have hcell : ([Value.int .i64 a0, .int .i64 a1, .int .i64 a2, .int .i64 a3, .int .i64 a4, .int .i64 a5, .int .i64 a6, .int .i64 a7, .int .i64 a8, .int .i64 a9, .string s] : List Value)[k]'(by simp; omega) = .int .i64 x := by
        have e : (List.map (Value.int .i64) [a0, a1, a2, a3, a4, a5, a6, a7, a8, a9] ++ [.string s])[k]? = some (.int .i64 x) := by rw [List.getElem?_append_left (by simpa using hlt), List.getElem?_map, hx]; rfl
        exact (List.getElem?_eq_some_iff.1 e).2
      have HX := Lib.hid hx
      clear hx
      by_cases hw : inR x 0 65535 = true
      · go_wp2_with (go_at_call 51; refine (ref_In _ _ _ _).mono ?_; rintro e w' ⟨rfl, rfl⟩)
        go_round
        case rel =>
          refine ⟨k + 1, by omega, by go_num, ?_⟩
          intro j y hj hy
          rcases Nat.lt_succ_iff_lt_or_eq.1 hj with h | rfl
          · exact H.out j y h hy
          · have := HX.out.symm.trans hy
            simp at this
            rw [← this]
            exact hw
        case measure => simp [intOf]; omega
      · have hwf : inR x 0 65535 = false := by simpa using hw
        clear hw
        go_wp2_with (go_at_call 51; refine (ref_In _ _ _ _).mono ?_; rintro e w' ⟨rfl, rfl⟩)
        go_ret
        refine ⟨ret_int ?_, al_ _ _⟩
        have : packetFault ⟨a0, a1, a2, a3, a4, a5, a6, a7, a8, a9, s⟩ = 2 := by
          unfold packetFault
          rw [if_neg]
          have := all_not (p := word) HX.out hwf
          simpa [Pk.fields] using this
        exact this.symm
    · have hall : List.all [a0, a1, a2, a3, a4, a5, a6, a7, a8, a9] word = true := all_upto (fun j x hj => H.out j x (by
        have := (List.getElem?_eq_some_iff.1 hj).1
        simp at this
        omega) hj)
      have HG : Hid (packetFault ⟨a0, a1, a2, a3, a4, a5, a6, a7, a8, a9, s⟩ = if 40 < s.size then 1 else 0) := by
        show packetFault _ = _
        unfold packetFault
        exact if_pos hall
      clear hall H
      by_cases hs : (s.size : Int) ≤ 40
      all_goals
        go_wp2
        go_ret
        refine ⟨ret_int ?_, al_ _ _⟩
        rw [HG.out]
        first | rw [if_neg (by omega)] | rw [if_pos (by omega)]
end Go.Proofs.Ytdbbmjdeeenlhaa
