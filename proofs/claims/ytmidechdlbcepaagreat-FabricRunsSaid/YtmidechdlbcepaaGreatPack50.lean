import Derived.Test.YtmidechdlbcepaaGreatPack26
import Derived.Test.YtmidechdlbcepaaGreatPack49
set_option linter.unusedSimpArgs false
set_option linter.unusedVariables false
namespace Go.Proofs.YtmidechdlbcepaaGreat
open Go.RowKit
def keepP (a : De) (p : Po) : Option Po := if p.id = a.n then (if a.kind = 4 then none else some { p with ch := a.m }) else some p
def applyD (c : Cf) (a : De) : Cf :=
  if a.kind = 1 then { c with ss := c.ss ++ [a.sw] }
  else if a.kind = 2 then { c with ps := c.ps ++ [a.po] }
  else if a.kind = 3 then { c with acs := c.acs ++ [a.ac] }
  else if a.kind = 4 ∨ a.kind = 6 then { c with ps := c.ps.filterMap (keepP a) }
  else { c with acs := c.acs.eraseIdx a.n.toNat }
theorem poFault_new {c : Cf} {s : Po} (h : poFault c s = 0) : ∀ q ∈ c.ps, q.id ≠ s.id ∧ ¬ (q.sw = s.sw ∧ q.mac = s.mac) := by
  unfold poFault at h
  repeat' split at h
  any_goals (exfalso; omega)
  intro q hq
  have h3 : c.ps.any (fun q => q.id == s.id || (q.sw == s.sw && q.mac == s.mac)) = false := by
    rename_i h3 _ _
    simpa using h3
  have := List.any_eq_false.1 h3 q hq
  simp at this
  exact ⟨this.1, fun h => this.2 h.1 h.2⟩
theorem posMay_pw : ∀ {l : List Po} {c : Cf}, posMay c l = true → (∀ q ∈ c.ps, ∀ p ∈ l, q.id ≠ p.id ∧ ¬ (q.sw = p.sw ∧ q.mac = p.mac)) ∧ l.Pairwise fun q p => q.id ≠ p.id ∧ ¬ (q.sw = p.sw ∧ q.mac = p.mac)
  | [], _, _ => ⟨by simp, .nil⟩
  | s :: l, c, h => by
    simp only [posMay, Bool.and_eq_true, decide_eq_true_eq] at h
    have h1 := poFault_new h.1
    obtain ⟨h2, h3⟩ := posMay_pw h.2
    refine ⟨fun q hq p hp => ?_, ?_⟩
    · rcases List.mem_cons.1 hp with rfl | hp
      · exact h1 q hq
      · exact h2 q (by simp [hq]) p hp
    · exact List.pairwise_cons.2 ⟨fun p hp => h2 s (by simp) p hp, h3⟩
theorem cfMay_ids {c : Cf} (h : cfMay c = true) : c.ps.Pairwise fun q p => q.id ≠ p.id ∧ ¬ (q.sw = p.sw ∧ q.mac = p.mac) := by
  simp only [cfMay, Bool.and_eq_true] at h
  exact (posMay_pw h.1.2).2
theorem keep_none {a : De} : ∀ {l : List Po}, (∀ p ∈ l, p.id ≠ a.n) → l.filterMap (keepP a) = l
  | [], _ => rfl
  | x :: l, h => by
    have hx : keepP a x = some x := by rw [keepP, if_neg (h x (by simp))]
    rw [List.filterMap_cons, hx, keep_none fun p hp => h p (by simp [hp])]
theorem keep_at {a : De} : ∀ {l : List Po} {i : Nat}, (l.Pairwise fun q p => q.id ≠ p.id ∧ ¬ (q.sw = p.sw ∧ q.mac = p.mac)) → idxB (fun p => p.id == a.n) l = (i : Int) →
    l.filterMap (keepP a) = if a.kind = 4 then l.eraseIdx i else l.modify i fun p => { p with ch := a.m }
  | [], i, _, h => by simp [idxB] at h
  | x :: l, i, hp, h => by
    have hge := idxB_ge (fun p : Po => p.id == a.n) l
    obtain ⟨h1, h2⟩ := List.pairwise_cons.1 hp
    simp only [idxB] at h
    by_cases hx : x.id = a.n
    · simp only [hx, beq_self_eq_true, if_true] at h
      obtain rfl : i = 0 := by omega
      rw [List.filterMap_cons]
      have hn : l.filterMap (keepP a) = l := keep_none fun p hp => by have := (h1 p hp).1; rw [hx] at this; exact fun e => this e.symm
      rw [hn, keepP, if_pos hx]
      by_cases hk : a.kind = 4
      · simp [hk]
      · simp [hk]
    · simp only [beq_iff_eq, hx, if_false] at h
      split at h
      · omega
      · obtain ⟨j, rfl⟩ : ∃ j, i = j + 1 := ⟨i - 1, by omega⟩
        rw [List.filterMap_cons, keepP, if_neg hx, keep_at h2 (show idxB (fun p : Po => p.id == a.n) l = (j : Int) by omega)]
        by_cases hk : a.kind = 4
        · simp [hk]
        · simp [hk]
theorem applyD_eq {c : Cf} {a : De} (hm : cfMay c = true) (h : applyE c a = 0) : applyD c a = applyC c a := by
  unfold applyD applyC
  rw [applyE, if_neg (by rw [hm]; decide)] at h
  by_cases k1 : a.kind = 1
  · rw [if_pos k1, if_pos k1]
  by_cases k2 : a.kind = 2
  · rw [if_neg k1, if_pos k2, if_neg k1, if_pos k2]
  by_cases k3 : a.kind = 3
  · rw [if_neg k1, if_neg k2, if_pos k3, if_neg k1, if_neg k2, if_pos k3]
  rw [if_neg k1, if_neg k2, if_neg k3, if_neg k1, if_neg k2, if_neg k3]
  rw [if_neg k1, if_neg k2, if_neg k3] at h
  by_cases k46 : a.kind = 4 ∨ a.kind = 6
  · rw [if_pos k46]
    rw [if_pos k46] at h
    split at h
    · omega
    · rename_i h0
      obtain ⟨i, hi⟩ : ∃ i : Nat, idxB (fun p => p.id == a.n) c.ps = i := ⟨_, (Int.toNat_of_nonneg (Int.not_lt.1 h0)).symm⟩
      rw [keep_at (cfMay_ids hm) hi, hi, Int.toNat_natCast]
      rcases k46 with k | k
      · rw [if_pos k, if_pos k]
      · rw [if_neg (by omega), if_neg (by omega), if_pos k]
  · rw [if_neg k46]
    rw [if_neg k46] at h
    rw [if_neg (fun h => k46 (.inl h)), if_neg (fun h => k46 (.inr h))]
end Go.Proofs.YtmidechdlbcepaaGreat