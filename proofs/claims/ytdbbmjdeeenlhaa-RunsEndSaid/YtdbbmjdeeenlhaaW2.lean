/- Walks of the reference's FrameFault. -/
import Derived.Test.YtdbbmjdeeenlhaaW1
namespace Go.Proofs.Ytdbbmjdeeenlhaa
open Go.RowKit

set_option maxHeartbeats 400000 in
theorem ref_In (n lo hi : Int) (w : World) :
    Calls Try.prog 51 #[.int .i64 n, .int .i64 lo, .int .i64 hi] w fun e w' => e = .returned (.bool (inR n lo hi)) ∧ w = w' := by
  by_cases h1 : lo ≤ n <;> by_cases h2 : n ≤ hi <;> (
  go_enter Try.func51, Try.ntmps51
  go_wp2
  go_ret
  exact ⟨ret_bool (by simp [inR, h1, h2]), rfl⟩)

set_option maxHeartbeats 400000 in
theorem ref_FrameFault (a0 a1 a2 a3 a4 a5 a6 : Int) (s : ByteArray) (w : World) :
    Calls Try.prog 53 #[.agg #[.int .i64 a0, .int .i64 a1, .int .i64 a2, .int .i64 a3, .int .i64 a4, .int .i64 a5, .int .i64 a6, .string s]] w fun e w' => e = .returned (.int .i64 (frameFault ⟨a0, a1, a2, a3, a4, a5, a6, s⟩)) ∧ Below w.heap.size w w' := by
  by_cases hk0 : inR a2 1 3 = true
  case neg =>
    have hkf : inR a2 1 3 = false := by simpa using hk0
    clear hk0
    go_enter Try.func53, Try.ntmps53
    go_wp2_with (go_at_call 51; refine (ref_In _ _ _ _).mono ?_; rintro e w' ⟨rfl, rfl⟩)
    go_ret
    refine ⟨ret_int ?_, (Below.refl _ _).alloc (Nat.le_refl _) _⟩
    rw [inR_not] at hkf
    unfold frameFault
    rw [if_pos (by dsimp only; omega)]
  case pos =>
    have hk := inR_iff.1 hk0
    go_enter Try.func53, Try.ntmps53
    go_wp2_with (go_at_call 51; refine (ref_In _ _ _ _).mono ?_; rintro e w' ⟨rfl, rfl⟩)
    go_loop [4] (fun i => ∃ k : Nat, k ≤ 5 ∧ i = .int .i64 k ∧ Hid (∀ j, j < k → word ([a0, a1, a3, a4, a6].getD j 0) = true)) (fun i => 5 - (intOf i).toNat)
    case atStart => exact ⟨0, by omega, rfl, fun j h => absurd h (Nat.not_lt_zero _)⟩
    case round =>
      obtain ⟨k, hk5, rfl, H⟩ := hrel
      by_cases hlt : k < 5
      · obtain ⟨x, hx⟩ : ∃ x, [a0, a1, a3, a4, a6][k]? = some x := ⟨_, List.getElem?_eq_getElem (by simpa using hlt)⟩
        have hcell : ([Value.int .i64 a0, .int .i64 a1, .int .i64 a3, .int .i64 a4, .int .i64 a6] : List Value)[k]'(by simpa using hlt) = .int .i64 x := by
          have e : (List.map (Value.int .i64) [a0, a1, a3, a4, a6])[k]? = some (.int .i64 x) := by rw [List.getElem?_map, hx]; rfl
          exact (List.getElem?_eq_some_iff.1 e).2
        have HX := Lib.hid hx
        clear hx
        go_wp2_with (go_at_call 51; refine (ref_In _ _ _ _).mono ?_; rintro e w' ⟨rfl, rfl⟩)
        · go_ret
          refine ⟨ret_int ?_, ((Below.refl _ _).alloc (Nat.le_refl _) _).alloc (by simp) _⟩
          have hx := HX.out
          have hb : inR x 0 65535 = false := by simp_all
          rw [inR_word] at hb
          have hm : word a0 = false ∨ word a1 = false ∨ word a3 = false ∨ word a4 = false ∨ word a6 = false := by
            rcases (by omega : k = 0 ∨ k = 1 ∨ k = 2 ∨ k = 3 ∨ k = 4) with rfl | rfl | rfl | rfl | rfl <;> (simp at hx; subst hx; simp [hb])
          unfold frameFault
          rw [if_neg (by dsimp only; omega), if_pos (by dsimp only; rcases hm with h | h | h | h | h <;> simp [h])]
        · go_round
          case rel =>
            refine ⟨k + 1, by omega, by go_num, ?_⟩
            intro j hj
            rcases Nat.lt_succ_iff_lt_or_eq.1 hj with h | rfl
            · exact H.out j h
            · have hx := HX.out
              have hb : inR x 0 65535 = true := by simp_all
              rw [List.getD_eq_getElem?_getD, hx]
              exact hb
          case measure => simp [intOf]; omega
      · have w0 : word a0 = true := H.out 0 (by omega)
        have w1 : word a1 = true := H.out 1 (by omega)
        have w3 : word a3 = true := H.out 2 (by omega)
        have w4 : word a4 = true := H.out 3 (by omega)
        have w6 : word a6 = true := H.out 4 (by omega)
        have h6 : 0 ≤ a6 := (word_iff.1 w6).1
        clear w0 w1 w3 w4 w6
        have hg : frameFault ⟨a0, a1, a2, a3, a4, a5, a6, s⟩ = if a5 < 0 ∨ 255 < a5 then 2 else if 40 < s.size then 1 else if a2 ≠ 3 ∧ (a5 ≠ 0 ∨ a6 ≠ 0 ∨ s.size ≠ 0) then 4 else 0 := by
          unfold frameFault
          rw [if_neg (by dsimp only; omega)]
          have w0 : word a0 = true := H.out 0 (by omega)
          have w1 : word a1 = true := H.out 1 (by omega)
          have w3 : word a3 = true := H.out 2 (by omega)
          have w4 : word a4 = true := H.out 3 (by omega)
          have w6 : word a6 = true := H.out 4 (by omega)
          simp [w0, w1, w3, w4, w6]
        have HG := Lib.hid hg
        clear hg H
        by_cases h5 : inR a5 0 255 = true
        · have h5' := inR_iff.1 h5
          by_cases hs : (s.size : Int) ≤ 40
          · by_cases h3 : (a2 != 3) = true
            · have h3' : a2 ≠ 3 := by simpa using h3
              by_cases ha5 : 0 < a5
              · go_wp2_with (go_at_call 51; refine (ref_In _ _ _ _).mono ?_; rintro e w' ⟨rfl, rfl⟩)
                go_ret
                exact ⟨ret_int (by rw [HG.out, if_neg (by omega), if_neg (by omega), if_pos ⟨h3', .inl (by omega)⟩]), ((Below.refl _ _).alloc (Nat.le_refl _) _).alloc (by simp) _⟩
              · by_cases ha6 : 0 < a6
                · go_wp2_with (go_at_call 51; refine (ref_In _ _ _ _).mono ?_; rintro e w' ⟨rfl, rfl⟩)
                  go_ret
                  exact ⟨ret_int (by rw [HG.out, if_neg (by omega), if_neg (by omega), if_pos ⟨h3', .inr (.inl (by omega))⟩]), ((Below.refl _ _).alloc (Nat.le_refl _) _).alloc (by simp) _⟩
                · by_cases hs0 : 0 < (s.size : Int)
                  · go_wp2_with (go_at_call 51; refine (ref_In _ _ _ _).mono ?_; rintro e w' ⟨rfl, rfl⟩)
                    go_ret
                    exact ⟨ret_int (by rw [HG.out, if_neg (by omega), if_neg (by omega), if_pos ⟨h3', .inr (.inr (by omega))⟩]), ((Below.refl _ _).alloc (Nat.le_refl _) _).alloc (by simp) _⟩
                  · go_wp2_with (go_at_call 51; refine (ref_In _ _ _ _).mono ?_; rintro e w' ⟨rfl, rfl⟩)
                    go_ret
                    exact ⟨ret_int (by rw [HG.out, if_neg (by omega), if_neg (by omega), if_neg (by omega)]), ((Below.refl _ _).alloc (Nat.le_refl _) _).alloc (by simp) _⟩
            · have h3' : a2 = 3 := by simpa using h3
              have h3'' : (a2 != 3) = false := by simpa using h3
              go_wp2_with (go_at_call 51; refine (ref_In _ _ _ _).mono ?_; rintro e w' ⟨rfl, rfl⟩)
              go_ret
              exact ⟨ret_int (by rw [HG.out, if_neg (by omega), if_neg (by omega), if_neg (by omega)]), ((Below.refl _ _).alloc (Nat.le_refl _) _).alloc (by simp) _⟩
          · go_wp2_with (go_at_call 51; refine (ref_In _ _ _ _).mono ?_; rintro e w' ⟨rfl, rfl⟩)
            go_ret
            exact ⟨ret_int (by rw [HG.out, if_neg (by omega), if_pos (by omega)]), ((Below.refl _ _).alloc (Nat.le_refl _) _).alloc (by simp) _⟩
        · have h5f : inR a5 0 255 = false := by simpa using h5
          have h5' := inR_not.1 h5f
          go_wp2_with (go_at_call 51; refine (ref_In _ _ _ _).mono ?_; rintro e w' ⟨rfl, rfl⟩)
          go_ret
          exact ⟨ret_int (by rw [HG.out, if_pos (by omega)]), ((Below.refl _ _).alloc (Nat.le_refl _) _).alloc (by simp) _⟩
end Go.Proofs.Ytdbbmjdeeenlhaa
