/- Flows that may be: what that says of each. -/
import Derived.Test.YtdbbmjdeeenlhaaD3
namespace Go.Proofs.Ytdbbmjdeeenlhaa
open Go.RowKit

theorem flsFault_mem : ∀ {l : List Fl} {f : Fl}, flsFault l = 0 → f ∈ l → flFault f = 0
  | g :: l, f, h, hf => by
    unfold flsFault at h
    split at h
    · rename_i h0
      rcases List.mem_cons.1 hf with rfl | hf
      · exact h0
      · exact flsFault_mem h hf
    · rename_i h0
      exact absurd h h0
structure FlMay (f : Fl) : Prop where
  ms : f.ms.length ≤ 12
  ds : f.ds.length ≤ 100
  table : 0 ≤ f.table ∧ f.table ≤ 7
  mok : f.ms.all mxOk = true
  dok : dxOk f.table f.ds = true
theorem flMay {f : Fl} (h : flFault f = 0) : FlMay f := by
  unfold flFault at h
  split at h
  · omega
  · split at h
    · omega
    · split at h
      · omega
      · split at h
        · omega
        · rename_i h1 h2 h3 h4
          have h5 : inR f.table 0 7 = true := by
            cases e : inR f.table 0 7 with
            | true => rfl
            | false => exact absurd (Or.inl e) h2
          exact ⟨by omega, by omega, inR_iff.1 h5, by simpa using h3, by simpa using h4⟩
theorem flowsMay {l : List Fl} (h : flowsFault l = 0) : l.length ≤ 5000 ∧ ∀ f ∈ l, FlMay f := by
  unfold flowsFault at h
  split at h
  · omega
  · exact ⟨by omega, fun f hf => flMay (flsFault_mem h hf)⟩
theorem dxOk_mem {t : Int} : ∀ {l : List Dx} {d : Dx}, dxOk t l = true → d ∈ l → ∃ b, dxMay d t b = true
  | e :: l, d, h, hd => by
    simp only [dxOk, Bool.and_eq_true] at h
    rcases List.mem_cons.1 hd with rfl | hd
    · exact ⟨_, h.1⟩
    · exact dxOk_mem h.2 hd
/-- What a thing to be done needs. -/
theorem dxMay_use {d : Dx} {t : Int} {b : Bool} (h : dxMay d t b = true) : (d.kind = 1 → (0 ≤ d.a ∧ d.a ≤ 9) ∧ word d.n = true) ∧ (d.kind = 2 → (0 ≤ d.a ∧ d.a ≤ 9) ∧ (0 ≤ d.n ∧ d.n ≤ 9)) ∧ (d.kind = 3 → 0 ≤ d.a ∧ d.a ≤ 9) ∧ (d.kind = 4 → t < d.n ∧ d.n ≤ 7) ∧ (d.kind = 1 ∨ d.kind = 2 ∨ d.kind = 3 ∨ d.kind = 4 ∨ d.kind = 5 ∨ d.kind = 6) := by
  unfold dxMay at h
  repeat' split at h
  all_goals try simp only [Bool.and_eq_true, inR_iff, decide_eq_true_eq] at h
  all_goals first
    | (refine ⟨fun e => ?_, fun e => ?_, fun e => ?_, fun e => ?_, ?_⟩ <;> first | omega | (exfalso; omega) | exact ⟨h.1, h.2⟩ | exact h.1)
    | cases h
end Go.Proofs.Ytdbbmjdeeenlhaa
