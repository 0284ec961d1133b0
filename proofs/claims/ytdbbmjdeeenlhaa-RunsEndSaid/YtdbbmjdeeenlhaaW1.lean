/- Walks of wire's small functions. -/
import Derived.Test.YtdbbmjdeeenlhaaRows
import Derived.Test.YtdbbmjdeeenlhaaSpec
import Derived.WalkKit
import Derived.WalkSpells
import Derived.WalkLawsBesides
import Derived.Lib.Hide
namespace Go.Proofs.Ytdbbmjdeeenlhaa
open Go.RowKit

set_option maxHeartbeats 400000 in
theorem wire_word (n : Int) (w : World) :
    Calls Try.prog 92 #[.int .i64 n] w fun e w' => e = .returned (.bool (word n)) ∧ w = w' := by
  unfold word
  by_cases h1 : 0 ≤ n <;> by_cases h2 : n ≤ 65535 <;> (
  go_enter Try.func92, Try.ntmps92
  go_wp2
  go_ret
  exact ⟨ret_bool (by simp [h1, h2]), rfl⟩)

set_option maxHeartbeats 400000 in
theorem wire_Check (a0 a1 a2 a3 a4 a5 a6 : Int) (s : ByteArray) (w : World) :
    Calls Try.prog 84 #[.agg #[.int .i64 a0, .int .i64 a1, .int .i64 a2, .int .i64 a3, .int .i64 a4, .int .i64 a5, .int .i64 a6, .string s]] w fun e w' => e = .returned (.int .i64 (frameFault ⟨a0, a1, a2, a3, a4, a5, a6, s⟩)) ∧ Below w.heap.size w w' := by
  go_enter Try.func84, Try.ntmps84
  go_wp2_with (go_at_call 92; refine (wire_word _ _).mono ?_; rintro e w' ⟨rfl, rfl⟩)
  all_goals (go_ret; refine ⟨ret_int ?_, by repeat (first | exact Below.refl _ _ | apply Below.alloc | exact Nat.le_refl _)⟩)
  all_goals (first | simp only [toList_isEmpty] at * | skip)
  all_goals (first | (simp [frameFault, *]; done) | (simp [frameFault, *]; omega) | (simp_all [frameFault]; done) | (simp_all [frameFault]; omega))
end Go.Proofs.Ytdbbmjdeeenlhaa
