/- Flows: the program's run, by the logic of memory. -/
import Derived.Test.YtdbbmjdeeenlhaaF7
import Derived.Test.YtdbbmjdeeenlhaaD4
namespace Go.Proofs.Ytdbbmjdeeenlhaa
open Go.RowKit
set_option maxRecDepth 100000

theorem word_max {a : Int} (h : word a = true) : word (if 0 > a - 1 then 0 else a - 1) = true := by
  have := word_iff.1 h
  rw [word_iff]
  split <;> omega
theorem wd_of {p : Pk} (h : packetFault p = 0) : p.Wd := by
  unfold packetFault at h
  split at h
  · rename_i h1
    simp only [Pk.fields, List.all_cons, List.all_nil, Bool.and_eq_true] at h1
    intro i hi
    match i, hi with
    | 0, _ => exact h1.1
    | 1, _ => exact h1.2.1
    | 2, _ => exact h1.2.2.1
    | 3, _ => exact h1.2.2.2.1
    | 4, _ => exact h1.2.2.2.2.1
    | 5, _ => exact h1.2.2.2.2.2.1
    | 6, _ => exact h1.2.2.2.2.2.2.1
    | 7, _ => exact h1.2.2.2.2.2.2.2.1
    | 8, _ => exact h1.2.2.2.2.2.2.2.2.1
    | 9, _ => exact h1.2.2.2.2.2.2.2.2.2.1
    | k + 10, h => omega
  · omega
/-- What the document says of a run. -/
def ranFault (l : List Fl) (p : Pk) : Int := if flowsFault l ≠ 0 then flowsFault l else packetFault p
def ranR (l : List Fl) (p : Pk) : List Snt := if ranFault l p ≠ 0 then [] else ranOf l p
theorem stepD_keeps {s : Rs} {d : Dx} {t : Int} {b : Bool} (hp : s.p.Wd) (h : dxMay d t b = true) : (stepD s d).p.Wd ∧ (stepD s d).out.length ≤ s.out.length + 1 ∧ ((stepD s d).table = s.table ∨ (t < (stepD s d).table ∧ (stepD s d).table ≤ 7)) := by
  obtain ⟨h1, h2, h3, h4, _⟩ := dxMay_use h
  unfold stepD
  split
  · exact ⟨setP_wd hp _ (h1 (by assumption)).2, by dsimp only; omega, .inl rfl⟩
  · split
    · exact ⟨setP_wd hp _ (hp _ (by have := (h2 (by assumption)).2; omega)), by dsimp only; omega, .inl rfl⟩
    · split
      · exact ⟨setP_wd hp _ (word_max (hp _ (by have := h3 (by assumption); omega))), by dsimp only; omega, .inl rfl⟩
      · split
        · exact ⟨hp, by dsimp only; omega, .inr (h4 (by assumption))⟩
        · exact ⟨hp, by simp, .inl rfl⟩
end Go.Proofs.Ytdbbmjdeeenlhaa
