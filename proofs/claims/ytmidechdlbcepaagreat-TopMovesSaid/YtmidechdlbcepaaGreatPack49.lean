import Derived.Test.YtmidechdlbcepaaGreatPack37
set_option linter.unusedSimpArgs false
set_option linter.unusedVariables false
namespace Go.Proofs.YtmidechdlbcepaaGreat
open Go.RowKit
theorem idxB_id : ∀ {l : List Po} {k : Nat} {p : Po}, (l.Pairwise fun q p => q.id ≠ p.id) → l[k]? = some p → idxB (fun x => x.id == p.id) l = (k : Int)
  | [], k, p, _, h => by simp at h
  | x :: l, 0, p, _, h => by
    obtain rfl := Option.some.inj h
    simp [idxB]
  | x :: l, k + 1, p, hp, h => by
    obtain ⟨h1, h2⟩ := List.pairwise_cons.1 hp
    have h : l[k]? = some p := by simpa using h
    have hne := h1 p (List.mem_of_getElem? h)
    rw [idxB, if_neg (by simpa using hne), idxB_id h2 h, if_neg (by omega)]
    omega
section
variable {c : Cf} {k : Nat} {p : Po}
theorem CfOk.ids (h : CfOk c) : c.ps.Pairwise fun q p => q.id ≠ p.id := h.pd.imp fun h => h.1
theorem bind_E (h : CfOk c) (hk : c.ps[k]? = some p) {m : Int} (hm : -1 ≤ m ∧ m ≤ 5) : applyE c { de0 with kind := 6, n := p.id, m := m } = 0 := by
  rw [applyE, if_neg (by rw [cfMay_iff.2 h]; decide), if_neg (by dsimp only; omega), if_neg (by dsimp only; omega), if_neg (by dsimp only; omega), if_pos (.inr rfl)]
  dsimp only
  rw [idxB_id h.ids hk, if_neg (by omega), if_neg (by rw [inR_iff.2 hm]; simp)]
theorem bind_R (h : CfOk c) (hk : c.ps[k]? = some p) {m : Int} (hm : -1 ≤ m ∧ m ≤ 5) : applyR c { de0 with kind := 6, n := p.id, m := m } = { c with ps := c.ps.modify k fun q => { q with ch := m } } := by
  rw [applyR_ok (bind_E h hk hm), applyC, if_neg (by dsimp only; omega), if_neg (by dsimp only; omega), if_neg (by dsimp only; omega), if_neg (by dsimp only; omega), if_pos rfl]
  dsimp only
  rw [idxB_id h.ids hk, Int.toNat_natCast]
end
end Go.Proofs.YtmidechdlbcepaaGreat