/- What is refused of what is there already: plain. -/
import Derived.Test.YtdbbmjdeeenlhaaPack26
import Derived.Test.YtdbbmjdeeenlhaaPack22
import Derived.Test.YtdbbmjdeeenlhaaPack20
import Derived.Test.YtdbbmjdeeenlhaaPack21
set_option linter.unusedSimpArgs false
set_option linter.unusedVariables false
namespace Go.Proofs.Ytdbbmjdeeenlhaa
open Go.RowKit

theorem applyE_1 {c : Cf} (h : CfOk c) (s : Sw) : applyE c { de0 with kind := 1, sw := s } = swFault c s := by
  rw [applyE, if_neg (by rw [cfMay_iff.2 h]; decide), if_pos rfl]
theorem applyE_2 {c : Cf} (h : CfOk c) (p : Po) : applyE c { de0 with kind := 2, po := p } = poFault c p := by
  rw [applyE, if_neg (by rw [cfMay_iff.2 h]; decide), if_neg (by dsimp only; omega), if_pos rfl]
theorem applyE_7 {c : Cf} (h : CfOk c) : applyE c { de0 with kind := 7 } = 3 := by
  rw [applyE, if_neg (by rw [cfMay_iff.2 h]; decide)]
  rfl
theorem poFault7 {c : Cf} {p q : Po} (hr : PoR p) (hs : hasSw c.ss p.sw) (hq : q ∈ c.ps) (h : ¬ PoD c.ss q p) : poFault c p = 7 := by
  unfold poFault
  rw [if_neg, if_neg]
  · by_cases h3 : c.ps.any (fun q => q.id == p.id || (q.sw == p.sw && q.mac == p.mac)) = true
    · rw [if_pos h3]
    · rw [if_neg h3, if_pos]
      have h3' : c.ps.any (fun q => q.id == p.id || (q.sw == p.sw && q.mac == p.mac)) = false := by simpa using h3
      have := List.any_eq_false.1 h3' q hq
      simp only [Bool.or_eq_true, Bool.and_eq_true, beq_iff_eq] at this
      have h4 : q.ip = p.ip ∧ tenantAt c.ss q.sw = tenantAt c.ss p.sw := by
        apply Decidable.byContradiction
        intro h4
        exact h ⟨fun e => this (.inl e), fun e => this (.inr e), h4⟩
      simp only [takenB, Bool.or_eq_true, List.any_eq_true, Bool.and_eq_true, beq_iff_eq]
      exact .inr ⟨q, hq, h4⟩
  · rw [hasSw_any.2 hs]
    simp
  · simp only [inR_not]
    unfold PoR at hr
    omega
theorem twice1 {c : Cf} (h : CfOk c) {p : Po} (hp : p ∈ c.ps) : applyE c { de0 with kind := 2, po := p } = 7 := by
  rw [applyE_2 h]
  obtain ⟨h1, h2, _⟩ := h.pg p hp
  exact poFault7 h1 h2 hp fun h => h.1 rfl
theorem twice2 {c : Cf} (h : CfOk c) {p : Po} (hp : p ∈ c.ps) {n : Int} (hn : 0 ≤ n ∧ n < 50) : applyE c { de0 with kind := 2, po := { p with id := 900 + n } } = 7 := by
  rw [applyE_2 h]
  obtain ⟨h1, h2, _⟩ := h.pg p hp
  exact poFault7 (by unfold PoR at *; dsimp only; omega) h2 hp fun h => h.2.1 ⟨rfl, rfl⟩
theorem twice3 {c : Cf} (h : CfOk c) {p : Po} (hp : p ∈ c.ps) {n : Int} (hn : 0 ≤ n ∧ n < 50) : applyE c { de0 with kind := 2, po := { p with id := 900 + n, mac := 5000 } } = 7 := by
  rw [applyE_2 h]
  obtain ⟨h1, h2, _⟩ := h.pg p hp
  exact poFault7 (by unfold PoR at *; dsimp only; omega) h2 hp fun h => h.2.2 ⟨rfl, rfl⟩
theorem twice4 {c : Cf} (h : CfOk c) (hs : SwSome c) : applyE c { de0 with kind := 1, sw := ⟨1, 9, 0⟩ } = 7 := by
  rw [applyE_1 h]
  unfold swFault
  rw [if_neg (by decide), if_pos (.inl (hasSw_any.2 hs.1))]
theorem twice5 {c : Cf} (h : CfOk c) (hs : SwSome c) : applyE c { de0 with kind := 2, po := ⟨999, 400, 1, 1, 0⟩ } = 6 := by
  rw [applyE_2 h]
  unfold poFault
  rw [if_neg (by decide), if_pos]
  apply hasSw_not.2
  rintro ⟨s, hs1, e⟩
  have := hs.2.1 s hs1
  dsimp only at e
  omega
end Go.Proofs.Ytdbbmjdeeenlhaa

/- A port dropped, and one on another channel: plain. -/
namespace Go.Proofs.Ytdbbmjdeeenlhaa
open Go.RowKit

theorem idxB_id : ∀ {l : List Po} {k : Nat} {p : Po}, (l.Pairwise fun q p => q.id ≠ p.id) → l[k]? = some p → idxB (fun x => x.id == p.id) l = (k : Int)
  | [], k, p, _, h => by simp at h
  | x :: l, 0, p, _, h => by
    obtain rfl := Option.some.inj h
    simp [idxB]
  | x :: l, k + 1, p, hp, h => by
    obtain ⟨h1, h2⟩ := List.pairwise_cons.1 hp
    have h : l[k]? = some p := by simpa using h
    have hne := h1 p (List.mem_of_getElem? h)
    rw [idxB, if_neg (by simpa using hne), idxB_id h2 h, if_neg (by omega)]
    omega
theorem idxB_gone : ∀ {l : List Po} {k : Nat} {p : Po}, (l.Pairwise fun q p => q.id ≠ p.id) → l[k]? = some p → ∀ q ∈ l.eraseIdx k, q.id ≠ p.id
  | [], k, p, _, h => by simp at h
  | x :: l, 0, p, hp, h => by
    obtain rfl := Option.some.inj h
    intro q hq
    exact fun e => (List.pairwise_cons.1 hp).1 q (by simpa using hq) e.symm
  | x :: l, k + 1, p, hp, h => by
    obtain ⟨h1, h2⟩ := List.pairwise_cons.1 hp
    have h : l[k]? = some p := by simpa using h
    intro q hq
    rw [List.eraseIdx_cons_succ] at hq
    rcases List.mem_cons.1 hq with rfl | hq
    · exact h1 p (List.mem_of_getElem? h)
    · exact idxB_gone h2 h q hq
section
variable {c : Cf} {k : Nat} {p : Po}
theorem CfOk.ids (h : CfOk c) : c.ps.Pairwise fun q p => q.id ≠ p.id := h.pd.imp fun h => h.1
theorem drop_E (h : CfOk c) (hk : c.ps[k]? = some p) : applyE c { de0 with kind := 4, n := p.id } = 0 := by
  rw [applyE, if_neg (by rw [cfMay_iff.2 h]; decide), if_neg (by dsimp only; omega), if_neg (by dsimp only; omega), if_neg (by dsimp only; omega), if_pos (.inl rfl)]
  dsimp only
  rw [idxB_id h.ids hk, if_neg (by omega), if_neg (by omega)]
theorem drop_R (h : CfOk c) (hk : c.ps[k]? = some p) : applyR c { de0 with kind := 4, n := p.id } = { c with ps := c.ps.eraseIdx k } := by
  rw [applyR_ok (drop_E h hk), applyC, if_neg (by dsimp only; omega), if_neg (by dsimp only; omega), if_neg (by dsimp only; omega), if_pos rfl]
  dsimp only
  rw [idxB_id h.ids hk, Int.toNat_natCast]
theorem drop_ok (h : CfOk c) (hk : c.ps[k]? = some p) : CfOk { c with ps := c.ps.eraseIdx k } := by
  have := h.apply (drop_E h hk)
  rwa [← applyR_ok (drop_E h hk), drop_R h hk] at this
theorem bind_E (h : CfOk c) (hk : c.ps[k]? = some p) {m : Int} (hm : -1 ≤ m ∧ m ≤ 5) : applyE c { de0 with kind := 6, n := p.id, m := m } = 0 := by
  rw [applyE, if_neg (by rw [cfMay_iff.2 h]; decide), if_neg (by dsimp only; omega), if_neg (by dsimp only; omega), if_neg (by dsimp only; omega), if_pos (.inr rfl)]
  dsimp only
  rw [idxB_id h.ids hk, if_neg (by omega), if_neg (by rw [inR_iff.2 hm]; simp)]
theorem bind_R (h : CfOk c) (hk : c.ps[k]? = some p) {m : Int} (hm : -1 ≤ m ∧ m ≤ 5) : applyR c { de0 with kind := 6, n := p.id, m := m } = { c with ps := c.ps.modify k fun q => { q with ch := m } } := by
  rw [applyR_ok (bind_E h hk hm), applyC, if_neg (by dsimp only; omega), if_neg (by dsimp only; omega), if_neg (by dsimp only; omega), if_neg (by dsimp only; omega), if_pos rfl]
  dsimp only
  rw [idxB_id h.ids hk, Int.toNat_natCast]
theorem gone_E (h : CfOk c) (hk : c.ps[k]? = some p) : applyE { c with ps := c.ps.eraseIdx k } { de0 with kind := 6, n := p.id } = 6 := by
  rw [applyE, if_neg (by rw [cfMay_iff.2 (drop_ok h hk)]; decide), if_neg (by dsimp only; omega), if_neg (by dsimp only; omega), if_neg (by dsimp only; omega), if_pos (.inr rfl)]
  dsimp only
  rw [idxB_none, if_pos (by omega)]
  intro q hq
  have := idxB_gone h.ids hk q hq
  simpa using this
theorem bind_at (hk : c.ps[k]? = some p) (m : Int) : (c.ps.modify k fun q => { q with ch := m })[k]? = some { p with ch := m } := by
  rw [List.getElem?_modify, hk]
  simp
theorem gone_len (hk : c.ps[k]? = some p) : (c.ps.eraseIdx k).length + 1 = c.ps.length := by
  have := (List.getElem?_eq_some_iff.1 hk).1
  rw [List.length_eraseIdx_of_lt this]
  omega
end
end Go.Proofs.Ytdbbmjdeeenlhaa

/- Lists held against each other by slices.Equal: equal ones are. -/
namespace Go.Proofs.Ytdbbmjdeeenlhaa
open Go.RowKit
set_option maxRecDepth 100000

set_option maxHeartbeats 1000000 in
theorem eqSnt_T (l : List Snt) (hl : l.length < 9223372036854775807) : Fun Try.prog 20 [.fv (slOf encSnt l), .fv (slOf encSnt l)] (.fv (.bool true)) := by
  refine Fun.body tbl_ok Try.func20 rfl (by kernel_rfl) rfl rfl rfl ?_
  repeat' (first
    | refine X.loc ?_
    | refine nx ?_
    | (refine WP.condBit rfl ?_ ?_)
    | (refine WP.cond rfl ?_ ?_ <;> intro hcond)
    | refine X.gst ?_ | refine X.gld ?_ | refine X.new ?_ | refine X.app ?_ | refine X.appS ?_ | refine X.stoW ?_ | refine X.stoB ?_ | refine X.stoR ?_ | refine X.gand ?_ | refine X.gor ?_
    | refine nd ?_
    | ((with_reducible apply drwK.mk); (· kernel_rfl); (· exact aF))
    | fail)
  · exfalso
    simp at hcond
  refine WP.loop (ι := Nat) (fun k => ⟨[(0, .fv (slOf encSnt l)), (1, .fv (slOf encSnt l)), (12, .fv (.int .i64 l.length)), (13, .fv (.int .i64 k))], []⟩) (fun k => k ≤ l.length) (fun k => l.length - k) 0 (by omega) ?_ ?_
  · skip
    refine St.le_of ?_ ?_ <;> (repeat' (first | exact trivial | refine ⟨⟨_, rfl, .refl _⟩, ?_⟩ | refine ⟨⟨_, rfl, .any _⟩, ?_⟩ | refine ⟨⟨_, rfl, .of_eq ?_⟩, ?_⟩ | refine ⟨⟨_, rfl, fun _ _ _ _ h => h⟩, ?_⟩ | fail))
  rintro k hk
  try dsimp only
  by_cases hlt : k < l.length
  case neg =>
    repeat' (first
      | refine X.loc ?_
      | refine nx ?_
      | refine X.cdT ?_
      | refine X.cdF ?_
      | (refine WP.condBit rfl ?_ ?_)
      | (refine WP.cond rfl ?_ ?_ <;> intro hcond)
      | refine X.gst ?_ | refine X.gld ?_ | refine X.new ?_ | refine X.app ?_ | refine X.appS ?_ | refine X.stoW ?_ | refine X.stoB ?_ | refine X.stoR ?_ | refine X.gand ?_ | refine X.gor ?_
      | refine nd ?_
      | ((with_reducible apply drwK.mk); (· kernel_rfl); (· exact aF))
      | fail)
    refine .f1 (.inl rfl) rfl rfl
  case pos =>
    obtain ⟨x, hx⟩ : ∃ x, l[k]? = some x := ⟨_, List.getElem?_eq_getElem hlt⟩
    repeat' (first
      | refine X.loc ?_
      | refine nx ?_
      | refine X.cdT ?_
      | refine X.cdF ?_
      | (refine WP.condBit rfl ?_ ?_)
      | (refine WP.cond rfl ?_ ?_ <;> intro hcond)
      | refine X.gst ?_ | refine X.gld ?_ | refine X.new ?_ | refine X.app ?_ | refine X.appS ?_ | refine X.stoW ?_ | refine X.stoB ?_ | refine X.stoR ?_ | refine X.gand ?_ | refine X.gor ?_
      | refine nd ?_
      | ((with_reducible apply drwK.mk); (· kernel_rfl); (· exact aF))
      | fail)
    · exfalso
      simp [beqL, beqV] at hcond
    · refine ⟨k + 1, by omega, by omega, ?_⟩
      refine St.le_of ?_ ?_ <;> (repeat' (first | exact trivial | refine ⟨⟨_, rfl, .refl _⟩, ?_⟩ | refine ⟨⟨_, rfl, .any _⟩, ?_⟩ | refine ⟨⟨_, rfl, .of_eq ?_⟩, ?_⟩ | refine ⟨⟨_, rfl, fun _ _ _ _ h => h⟩, ?_⟩ | fail))
set_option maxHeartbeats 1000000 in
theorem eqMx_T (l : List Mx) (hl : l.length < 9223372036854775807) : Fun Try.prog 90 [.fv (slOf encMx l), .fv (slOf encMx l)] (.fv (.bool true)) := by
  refine Fun.body tbl_ok Try.func90 rfl (by kernel_rfl) rfl rfl rfl ?_
  repeat' (first
    | refine X.loc ?_
    | refine nx ?_
    | (refine WP.condBit rfl ?_ ?_)
    | (refine WP.cond rfl ?_ ?_ <;> intro hcond)
    | refine X.gst ?_ | refine X.gld ?_ | refine X.new ?_ | refine X.app ?_ | refine X.appS ?_ | refine X.stoW ?_ | refine X.stoB ?_ | refine X.stoR ?_ | refine X.gand ?_ | refine X.gor ?_
    | refine nd ?_
    | ((with_reducible apply drwK.mk); (· kernel_rfl); (· exact aF))
    | fail)
  · exfalso
    simp at hcond
  refine WP.loop (ι := Nat) (fun k => ⟨[(0, .fv (slOf encMx l)), (1, .fv (slOf encMx l)), (12, .fv (.int .i64 l.length)), (13, .fv (.int .i64 k))], []⟩) (fun k => k ≤ l.length) (fun k => l.length - k) 0 (by omega) ?_ ?_
  · skip
    refine St.le_of ?_ ?_ <;> (repeat' (first | exact trivial | refine ⟨⟨_, rfl, .refl _⟩, ?_⟩ | refine ⟨⟨_, rfl, .any _⟩, ?_⟩ | refine ⟨⟨_, rfl, .of_eq ?_⟩, ?_⟩ | refine ⟨⟨_, rfl, fun _ _ _ _ h => h⟩, ?_⟩ | fail))
  rintro k hk
  try dsimp only
  by_cases hlt : k < l.length
  case neg =>
    repeat' (first
      | refine X.loc ?_
      | refine nx ?_
      | refine X.cdT ?_
      | refine X.cdF ?_
      | (refine WP.condBit rfl ?_ ?_)
      | (refine WP.cond rfl ?_ ?_ <;> intro hcond)
      | refine X.gst ?_ | refine X.gld ?_ | refine X.new ?_ | refine X.app ?_ | refine X.appS ?_ | refine X.stoW ?_ | refine X.stoB ?_ | refine X.stoR ?_ | refine X.gand ?_ | refine X.gor ?_
      | refine nd ?_
      | ((with_reducible apply drwK.mk); (· kernel_rfl); (· exact aF))
      | fail)
    refine .f1 (.inl rfl) rfl rfl
  case pos =>
    obtain ⟨x, hx⟩ : ∃ x, l[k]? = some x := ⟨_, List.getElem?_eq_getElem hlt⟩
    repeat' (first
      | refine X.loc ?_
      | refine nx ?_
      | refine X.cdT ?_
      | refine X.cdF ?_
      | (refine WP.condBit rfl ?_ ?_)
      | (refine WP.cond rfl ?_ ?_ <;> intro hcond)
      | refine X.gst ?_ | refine X.gld ?_ | refine X.new ?_ | refine X.app ?_ | refine X.appS ?_ | refine X.stoW ?_ | refine X.stoB ?_ | refine X.stoR ?_ | refine X.gand ?_ | refine X.gor ?_
      | refine nd ?_
      | ((with_reducible apply drwK.mk); (· kernel_rfl); (· exact aF))
      | fail)
    · exfalso
      simp [beqL, beqV] at hcond
    · refine ⟨k + 1, by omega, by omega, ?_⟩
      refine St.le_of ?_ ?_ <;> (repeat' (first | exact trivial | refine ⟨⟨_, rfl, .refl _⟩, ?_⟩ | refine ⟨⟨_, rfl, .any _⟩, ?_⟩ | refine ⟨⟨_, rfl, .of_eq ?_⟩, ?_⟩ | refine ⟨⟨_, rfl, fun _ _ _ _ h => h⟩, ?_⟩ | fail))
set_option maxHeartbeats 1000000 in
theorem eqDx_T (l : List Dx) (hl : l.length < 9223372036854775807) : Fun Try.prog 91 [.fv (slOf encDx l), .fv (slOf encDx l)] (.fv (.bool true)) := by
  refine Fun.body tbl_ok Try.func91 rfl (by kernel_rfl) rfl rfl rfl ?_
  repeat' (first
    | refine X.loc ?_
    | refine nx ?_
    | (refine WP.condBit rfl ?_ ?_)
    | (refine WP.cond rfl ?_ ?_ <;> intro hcond)
    | refine X.gst ?_ | refine X.gld ?_ | refine X.new ?_ | refine X.app ?_ | refine X.appS ?_ | refine X.stoW ?_ | refine X.stoB ?_ | refine X.stoR ?_ | refine X.gand ?_ | refine X.gor ?_
    | refine nd ?_
    | ((with_reducible apply drwK.mk); (· kernel_rfl); (· exact aF))
    | fail)
  · exfalso
    simp at hcond
  refine WP.loop (ι := Nat) (fun k => ⟨[(0, .fv (slOf encDx l)), (1, .fv (slOf encDx l)), (12, .fv (.int .i64 l.length)), (13, .fv (.int .i64 k))], []⟩) (fun k => k ≤ l.length) (fun k => l.length - k) 0 (by omega) ?_ ?_
  · skip
    refine St.le_of ?_ ?_ <;> (repeat' (first | exact trivial | refine ⟨⟨_, rfl, .refl _⟩, ?_⟩ | refine ⟨⟨_, rfl, .any _⟩, ?_⟩ | refine ⟨⟨_, rfl, .of_eq ?_⟩, ?_⟩ | refine ⟨⟨_, rfl, fun _ _ _ _ h => h⟩, ?_⟩ | fail))
  rintro k hk
  try dsimp only
  by_cases hlt : k < l.length
  case neg =>
    repeat' (first
      | refine X.loc ?_
      | refine nx ?_
      | refine X.cdT ?_
      | refine X.cdF ?_
      | (refine WP.condBit rfl ?_ ?_)
      | (refine WP.cond rfl ?_ ?_ <;> intro hcond)
      | refine X.gst ?_ | refine X.gld ?_ | refine X.new ?_ | refine X.app ?_ | refine X.appS ?_ | refine X.stoW ?_ | refine X.stoB ?_ | refine X.stoR ?_ | refine X.gand ?_ | refine X.gor ?_
      | refine nd ?_
      | ((with_reducible apply drwK.mk); (· kernel_rfl); (· exact aF))
      | fail)
    refine .f1 (.inl rfl) rfl rfl
  case pos =>
    obtain ⟨x, hx⟩ : ∃ x, l[k]? = some x := ⟨_, List.getElem?_eq_getElem hlt⟩
    repeat' (first
      | refine X.loc ?_
      | refine nx ?_
      | refine X.cdT ?_
      | refine X.cdF ?_
      | (refine WP.condBit rfl ?_ ?_)
      | (refine WP.cond rfl ?_ ?_ <;> intro hcond)
      | refine X.gst ?_ | refine X.gld ?_ | refine X.new ?_ | refine X.app ?_ | refine X.appS ?_ | refine X.stoW ?_ | refine X.stoB ?_ | refine X.stoR ?_ | refine X.gand ?_ | refine X.gor ?_
      | refine nd ?_
      | ((with_reducible apply drwK.mk); (· kernel_rfl); (· exact aF))
      | fail)
    · exfalso
      simp [beqL, beqV] at hcond
    · refine ⟨k + 1, by omega, by omega, ?_⟩
      refine St.le_of ?_ ?_ <;> (repeat' (first | exact trivial | refine ⟨⟨_, rfl, .refl _⟩, ?_⟩ | refine ⟨⟨_, rfl, .any _⟩, ?_⟩ | refine ⟨⟨_, rfl, .of_eq ?_⟩, ?_⟩ | refine ⟨⟨_, rfl, fun _ _ _ _ h => h⟩, ?_⟩ | fail))
set_option maxHeartbeats 1000000 in
theorem eqSw_T (l : List Sw) (hl : l.length < 9223372036854775807) : Fun Try.prog 44 [.fv (slOf encSw l), .fv (slOf encSw l)] (.fv (.bool true)) := by
  refine Fun.body tbl_ok Try.func44 rfl (by kernel_rfl) rfl rfl rfl ?_
  repeat' (first
    | refine X.loc ?_
    | refine nx ?_
    | (refine WP.condBit rfl ?_ ?_)
    | (refine WP.cond rfl ?_ ?_ <;> intro hcond)
    | refine X.gst ?_ | refine X.gld ?_ | refine X.new ?_ | refine X.app ?_ | refine X.appS ?_ | refine X.stoW ?_ | refine X.stoB ?_ | refine X.stoR ?_ | refine X.gand ?_ | refine X.gor ?_
    | refine nd ?_
    | ((with_reducible apply drwK.mk); (· kernel_rfl); (· exact aF))
    | fail)
  · exfalso
    simp at hcond
  refine WP.loop (ι := Nat) (fun k => ⟨[(0, .fv (slOf encSw l)), (1, .fv (slOf encSw l)), (12, .fv (.int .i64 l.length)), (13, .fv (.int .i64 k))], []⟩) (fun k => k ≤ l.length) (fun k => l.length - k) 0 (by omega) ?_ ?_
  · skip
    refine St.le_of ?_ ?_ <;> (repeat' (first | exact trivial | refine ⟨⟨_, rfl, .refl _⟩, ?_⟩ | refine ⟨⟨_, rfl, .any _⟩, ?_⟩ | refine ⟨⟨_, rfl, .of_eq ?_⟩, ?_⟩ | refine ⟨⟨_, rfl, fun _ _ _ _ h => h⟩, ?_⟩ | fail))
  rintro k hk
  try dsimp only
  by_cases hlt : k < l.length
  case neg =>
    repeat' (first
      | refine X.loc ?_
      | refine nx ?_
      | refine X.cdT ?_
      | refine X.cdF ?_
      | (refine WP.condBit rfl ?_ ?_)
      | (refine WP.cond rfl ?_ ?_ <;> intro hcond)
      | refine X.gst ?_ | refine X.gld ?_ | refine X.new ?_ | refine X.app ?_ | refine X.appS ?_ | refine X.stoW ?_ | refine X.stoB ?_ | refine X.stoR ?_ | refine X.gand ?_ | refine X.gor ?_
      | refine nd ?_
      | ((with_reducible apply drwK.mk); (· kernel_rfl); (· exact aF))
      | fail)
    refine .f1 (.inl rfl) rfl rfl
  case pos =>
    obtain ⟨x, hx⟩ : ∃ x, l[k]? = some x := ⟨_, List.getElem?_eq_getElem hlt⟩
    repeat' (first
      | refine X.loc ?_
      | refine nx ?_
      | refine X.cdT ?_
      | refine X.cdF ?_
      | (refine WP.condBit rfl ?_ ?_)
      | (refine WP.cond rfl ?_ ?_ <;> intro hcond)
      | refine X.gst ?_ | refine X.gld ?_ | refine X.new ?_ | refine X.app ?_ | refine X.appS ?_ | refine X.stoW ?_ | refine X.stoB ?_ | refine X.stoR ?_ | refine X.gand ?_ | refine X.gor ?_
      | refine nd ?_
      | ((with_reducible apply drwK.mk); (· kernel_rfl); (· exact aF))
      | fail)
    · exfalso
      simp [beqL, beqV] at hcond
    · refine ⟨k + 1, by omega, by omega, ?_⟩
      refine St.le_of ?_ ?_ <;> (repeat' (first | exact trivial | refine ⟨⟨_, rfl, .refl _⟩, ?_⟩ | refine ⟨⟨_, rfl, .any _⟩, ?_⟩ | refine ⟨⟨_, rfl, .of_eq ?_⟩, ?_⟩ | refine ⟨⟨_, rfl, fun _ _ _ _ h => h⟩, ?_⟩ | fail))
set_option maxHeartbeats 1000000 in
theorem eqAc_T (l : List Ac) (hl : l.length < 9223372036854775807) : Fun Try.prog 45 [.fv (slOf encAc l), .fv (slOf encAc l)] (.fv (.bool true)) := by
  refine Fun.body tbl_ok Try.func45 rfl (by kernel_rfl) rfl rfl rfl ?_
  repeat' (first
    | refine X.loc ?_
    | refine nx ?_
    | (refine WP.condBit rfl ?_ ?_)
    | (refine WP.cond rfl ?_ ?_ <;> intro hcond)
    | refine X.gst ?_ | refine X.gld ?_ | refine X.new ?_ | refine X.app ?_ | refine X.appS ?_ | refine X.stoW ?_ | refine X.stoB ?_ | refine X.stoR ?_ | refine X.gand ?_ | refine X.gor ?_
    | refine nd ?_
    | ((with_reducible apply drwK.mk); (· kernel_rfl); (· exact aF))
    | fail)
  · exfalso
    simp at hcond
  refine WP.loop (ι := Nat) (fun k => ⟨[(0, .fv (slOf encAc l)), (1, .fv (slOf encAc l)), (12, .fv (.int .i64 l.length)), (13, .fv (.int .i64 k))], []⟩) (fun k => k ≤ l.length) (fun k => l.length - k) 0 (by omega) ?_ ?_
  · skip
    refine St.le_of ?_ ?_ <;> (repeat' (first | exact trivial | refine ⟨⟨_, rfl, .refl _⟩, ?_⟩ | refine ⟨⟨_, rfl, .any _⟩, ?_⟩ | refine ⟨⟨_, rfl, .of_eq ?_⟩, ?_⟩ | refine ⟨⟨_, rfl, fun _ _ _ _ h => h⟩, ?_⟩ | fail))
  rintro k hk
  try dsimp only
  by_cases hlt : k < l.length
  case neg =>
    repeat' (first
      | refine X.loc ?_
      | refine nx ?_
      | refine X.cdT ?_
      | refine X.cdF ?_
      | (refine WP.condBit rfl ?_ ?_)
      | (refine WP.cond rfl ?_ ?_ <;> intro hcond)
      | refine X.gst ?_ | refine X.gld ?_ | refine X.new ?_ | refine X.app ?_ | refine X.appS ?_ | refine X.stoW ?_ | refine X.stoB ?_ | refine X.stoR ?_ | refine X.gand ?_ | refine X.gor ?_
      | refine nd ?_
      | ((with_reducible apply drwK.mk); (· kernel_rfl); (· exact aF))
      | fail)
    refine .f1 (.inl rfl) rfl rfl
  case pos =>
    obtain ⟨x, hx⟩ : ∃ x, l[k]? = some x := ⟨_, List.getElem?_eq_getElem hlt⟩
    repeat' (first
      | refine X.loc ?_
      | refine nx ?_
      | refine X.cdT ?_
      | refine X.cdF ?_
      | (refine WP.condBit rfl ?_ ?_)
      | (refine WP.cond rfl ?_ ?_ <;> intro hcond)
      | refine X.gst ?_ | refine X.gld ?_ | refine X.new ?_ | refine X.app ?_ | refine X.appS ?_ | refine X.stoW ?_ | refine X.stoB ?_ | refine X.stoR ?_ | refine X.gand ?_ | refine X.gor ?_
      | refine nd ?_
      | ((with_reducible apply drwK.mk); (· kernel_rfl); (· exact aF))
      | fail)
    · exfalso
      simp [beqL, beqV] at hcond
    · refine ⟨k + 1, by omega, by omega, ?_⟩
      refine St.le_of ?_ ?_ <;> (repeat' (first | exact trivial | refine ⟨⟨_, rfl, .refl _⟩, ?_⟩ | refine ⟨⟨_, rfl, .any _⟩, ?_⟩ | refine ⟨⟨_, rfl, .of_eq ?_⟩, ?_⟩ | refine ⟨⟨_, rfl, fun _ _ _ _ h => h⟩, ?_⟩ | fail))
set_option maxHeartbeats 1000000 in
theorem eqPo_T (l : List Po) (hl : l.length < 9223372036854775807) : Fun Try.prog 46 [.fv (slOf encPo l), .fv (slOf encPo l)] (.fv (.bool true)) := by
  refine Fun.body tbl_ok Try.func46 rfl (by kernel_rfl) rfl rfl rfl ?_
  repeat' (first
    | refine X.loc ?_
    | refine nx ?_
    | (refine WP.condBit rfl ?_ ?_)
    | (refine WP.cond rfl ?_ ?_ <;> intro hcond)
    | refine X.gst ?_ | refine X.gld ?_ | refine X.new ?_ | refine X.app ?_ | refine X.appS ?_ | refine X.stoW ?_ | refine X.stoB ?_ | refine X.stoR ?_ | refine X.gand ?_ | refine X.gor ?_
    | refine nd ?_
    | ((with_reducible apply drwK.mk); (· kernel_rfl); (· exact aF))
    | fail)
  · exfalso
    simp at hcond
  refine WP.loop (ι := Nat) (fun k => ⟨[(0, .fv (slOf encPo l)), (1, .fv (slOf encPo l)), (12, .fv (.int .i64 l.length)), (13, .fv (.int .i64 k))], []⟩) (fun k => k ≤ l.length) (fun k => l.length - k) 0 (by omega) ?_ ?_
  · skip
    refine St.le_of ?_ ?_ <;> (repeat' (first | exact trivial | refine ⟨⟨_, rfl, .refl _⟩, ?_⟩ | refine ⟨⟨_, rfl, .any _⟩, ?_⟩ | refine ⟨⟨_, rfl, .of_eq ?_⟩, ?_⟩ | refine ⟨⟨_, rfl, fun _ _ _ _ h => h⟩, ?_⟩ | fail))
  rintro k hk
  try dsimp only
  by_cases hlt : k < l.length
  case neg =>
    repeat' (first
      | refine X.loc ?_
      | refine nx ?_
      | refine X.cdT ?_
      | refine X.cdF ?_
      | (refine WP.condBit rfl ?_ ?_)
      | (refine WP.cond rfl ?_ ?_ <;> intro hcond)
      | refine X.gst ?_ | refine X.gld ?_ | refine X.new ?_ | refine X.app ?_ | refine X.appS ?_ | refine X.stoW ?_ | refine X.stoB ?_ | refine X.stoR ?_ | refine X.gand ?_ | refine X.gor ?_
      | refine nd ?_
      | ((with_reducible apply drwK.mk); (· kernel_rfl); (· exact aF))
      | fail)
    refine .f1 (.inl rfl) rfl rfl
  case pos =>
    obtain ⟨x, hx⟩ : ∃ x, l[k]? = some x := ⟨_, List.getElem?_eq_getElem hlt⟩
    repeat' (first
      | refine X.loc ?_
      | refine nx ?_
      | refine X.cdT ?_
      | refine X.cdF ?_
      | (refine WP.condBit rfl ?_ ?_)
      | (refine WP.cond rfl ?_ ?_ <;> intro hcond)
      | refine X.gst ?_ | refine X.gld ?_ | refine X.new ?_ | refine X.app ?_ | refine X.appS ?_ | refine X.stoW ?_ | refine X.stoB ?_ | refine X.stoR ?_ | refine X.gand ?_ | refine X.gor ?_
      | refine nd ?_
      | ((with_reducible apply drwK.mk); (· kernel_rfl); (· exact aF))
      | fail)
    · exfalso
      simp [beqL, beqV] at hcond
    · refine ⟨k + 1, by omega, by omega, ?_⟩
      refine St.le_of ?_ ?_ <;> (repeat' (first | exact trivial | refine ⟨⟨_, rfl, .refl _⟩, ?_⟩ | refine ⟨⟨_, rfl, .any _⟩, ?_⟩ | refine ⟨⟨_, rfl, .of_eq ?_⟩, ?_⟩ | refine ⟨⟨_, rfl, fun _ _ _ _ h => h⟩, ?_⟩ | fail))
end Go.Proofs.Ytdbbmjdeeenlhaa

/- Flows of raw numbers, as the program makes them. -/
namespace Go.Proofs.Ytdbbmjdeeenlhaa
open Go.RowKit
set_option maxRecDepth 100000

set_option maxHeartbeats 8000000 in
theorem flowsOf_T (l : List Rq) (m : Nat) (hok : ∀ r ∈ l, r.Ok) (hm : m ≤ 100) : FunO Try.prog 19 [.fv (slOf encRq l), .fv (.int .i64 (m : Int))] [] (.osl 7) [(7, .row 36 4 (flowsOf l m).length (((flowsOf l m).flatMap encFl).map .fv))] := by
  refine FunO.bodyL tbl_ok Try.func19 rfl (by kernel_rfl) rfl rfl rfl ?_
  repeat' (first
    | refine X.loc ?_
    | refine nx ?_
    | refine X.cdT ?_
    | refine X.cdF ?_
    | (refine WP.condBit rfl ?_ ?_)
    | (refine WP.cond rfl ?_ ?_ <;> intro hcond)
    | refine X.gst ?_ | refine X.gld ?_ | refine X.new ?_ | refine X.app ?_ | refine X.appS ?_ | refine X.stoW ?_ | refine X.stoB ?_ | refine X.stoR ?_ | refine X.gand ?_ | refine X.gor ?_
    | refine nd ?_
    | ((with_reducible apply drwK.mk); (· kernel_rfl); (· exact aF))
    | fail)
  refine WP.loop (ι := Nat) (fun k => ⟨[(0, .fv (slOf encRq l)), (1, .fv (.int .i64 (m : Int))), (5, .osl 900), (6, .fv (.int .i64 k))], [(900, .row 36 4 (flowsOf l k).length (((flowsOf l k).flatMap encFl).map .fv))]⟩) (fun k => k ≤ l.length ∧ k ≤ m) (fun k => m - k) 0 (by omega) ?_ ?_
  · skip
    refine St.to [(900, .nil)] [] rfl rfl ?_ ?_ <;> (repeat' (first | exact tA | refine t1 ?_ | exact tB | refine t2 ?_ ?_ | refine t3 ?_ | refine t4 ?_ ?_ | refine .ofEq ?_ | refine OB.To.cut rfl rfl ?_ ?_ ?_ ?_ | refine OB.To.box rfl rfl ?_ | refine ⟨⟨_, rfl, ?_⟩, ?_⟩ | refine ⟨?_, ?_⟩ | fail))
  rintro k ⟨hk, hkm⟩
  try dsimp only
  have hfl := flowsOf_len l k
  by_cases hlt : k < l.length ∧ k < m
  case neg =>
    have e : flowsOf l m = flowsOf l k := by
      unfold flowsOf
      rcases Nat.lt_or_ge k l.length with h | h
      · rw [show k = m by omega]
      · rw [List.take_of_length_le h, List.take_of_length_le (by omega)]
    rw [e]
    repeat' (first
      | refine X.loc ?_
      | refine nx ?_
      | refine X.cdT ?_
      | refine X.cdF ?_
      | (refine WP.condBit rfl ?_ ?_)
      | (refine WP.cond rfl ?_ ?_ <;> intro hcond)
      | refine X.gst ?_ | refine X.gld ?_ | refine X.new ?_ | refine X.app ?_ | refine X.appS ?_ | refine X.stoW ?_ | refine X.stoB ?_ | refine X.stoR ?_ | refine X.gand ?_ | refine X.gor ?_
      | refine nd ?_
      | ((with_reducible apply drwK.mk); (· kernel_rfl); (· exact aF))
      | fail)
    refine .ofL (s' := ⟨[(4, .osl 7)], [(7, .row 36 4 (flowsOf l k).length (((flowsOf l k).flatMap encFl).map .fv))]⟩) (by first | exact .inl rfl | exact .inr rfl) ?_ rfl rfl (by repeat' (first | exact trivial | refine ⟨⟨_, rfl, fun _ _ _ _ h => h⟩, ?_⟩))
    refine St.to [(7, .id 900)] [] rfl rfl ?_ ?_ <;> (repeat' (first | exact tA | refine t1 ?_ | exact tB | refine t2 ?_ ?_ | refine t3 ?_ | refine t4 ?_ ?_ | refine .ofEq ?_ | refine OB.To.cut rfl rfl ?_ ?_ ?_ ?_ | refine OB.To.box rfl rfl ?_ | refine ⟨⟨_, rfl, ?_⟩, ?_⟩ | refine ⟨?_, ?_⟩ | fail))
  case pos =>
    obtain ⟨x, hx⟩ : ∃ x, l[k]? = some x := ⟨_, List.getElem?_eq_getElem hlt.1⟩
    have hxo := hok x (List.mem_of_getElem? hx)
    obtain ⟨o1, o2, o3, o4⟩ := hxo
    have q1 := quoT_bd o3 (m := 3) (by omega)
    have q2 := quoT_bd o2 (m := 4) (by omega)
    have q3 := quoT_bd o4 (m := 4) (by omega)
    have q4 := quoT_bd o2 (m := 16) (by omega)
    have q5 := quoT_bd o3 (m := 9) (by omega)
    have q6 := quoT_bd o1 (m := 4) (by omega)
    have q7 := quoT_bd o1 (m := 8) (by omega)
    have n1 := o1
    have n2 := o2
    have n3 := o3
    have n4 := o4
    unfold N64 at n1 n2 n3 n4
    have hsn : flowsOf l (k + 1) = flowsOf l k ++ [flOf x] := by
      unfold flowsOf
      rw [List.take_add_one, hx, List.map_append]
      rfl
    generalize flowsOf l k = L at *
    obtain ⟨nb, hnb⟩ : ∃ nb : Nat, pick x.b 3 = nb := ⟨(pick x.b 3).toNat, (Int.toNat_of_nonneg (pick_le (by omega)).1).symm⟩
    obtain ⟨nc, hnc⟩ : ∃ nc : Nat, pick x.c 4 = nc := ⟨(pick x.c 4).toNat, (Int.toNat_of_nonneg (pick_le (by omega)).1).symm⟩
    have hnb2 := pick_le (n := x.b) (m := 3) (by omega)
    have hnc2 := pick_le (n := x.c) (m := 4) (by omega)
    rw [hnb] at hnb2
    rw [hnc] at hnc2
    have cb := picked_T x.b 3 n3.1 n3.2 (by omega)
    have cc := picked_T x.c 4 n4.1 n4.2 (by omega)
    rw [hnb] at cb
    rw [hnc] at cc
    repeat' (first
      | (apply X.loE; (· exact aR); (· first | (exact .eff (.idxS rfl rfl rfl encRq_len hx)) | exact .callL rfl rfl rfl (by first | exact cb | exact (picked_T _ _ (by omega) (by omega) (by omega))) rfl | (apply LEff.callBL; (· rfl); (· rfl); (· exact cb); (· exact aB); (· rfl)) | (apply LEff.callBL; (· rfl); (· rfl); (· exact (picked_T _ _ (by omega) (by omega) (by omega))); (· exact aB); (· rfl))))
      | refine X.loc ?_
      | refine nx ?_
      | refine X.cdT ?_
      | refine X.cdF ?_
      | (refine WP.condBit rfl ?_ ?_)
      | (refine WP.cond rfl ?_ ?_ <;> intro hcond)
      | (apply X.gsE; (· exact aR); (· exact aV); (· exact aW); (· intro hc; first | (exact .eff (.idxS rfl rfl rfl encRq_len hx)) | exact .callG rfl rfl rfl (by first | exact cb | exact (picked_T _ _ (by omega) (by omega) (by omega))) rfl | (apply LEff.callBG; (· rfl); (· rfl); (· exact cb); (· exact aB); (· rfl)) | (apply LEff.callBG; (· rfl); (· rfl); (· exact (picked_T _ _ (by omega) (by omega) (by omega))); (· exact aB); (· rfl))); (· exact aR))
      | refine X.gst ?_ | refine X.gld ?_ | refine X.new ?_ | refine X.app ?_ | refine X.appS ?_ | refine X.stoW ?_ | refine X.stoB ?_ | refine X.stoR ?_ | refine X.gand ?_ | refine X.gor ?_
      | refine nd ?_
      | ((with_reducible apply drwK.mk); (· kernel_rfl); (· exact aF))
      | fail)
    refine WP.loop (ι := Nat) (fun j => ⟨[(0, .fv (slOf encRq l)), (1, .fv (.int .i64 (m : Int))), (5, .osl 900), (6, .fv (.int .i64 k)), (7, .optr 7 0), (8, .optr 8 0), (37, .fv (.int .i64 nb)), (38, .fv (.int .i64 j))], [(900, .row 36 4 L.length ((L.flatMap encFl).map .fv)), (7, .box 67 ((encRq x).map .fv)), (8, .box 36 [.fv (.int .i64 (pick x.kind 4)), .fv (.int .i64 (pick x.a 4)), .osl 901, .nil]), (901, .row 30 3 ((List.range j).map (mxOf x)).length ((((List.range j).map (mxOf x)).flatMap encMx).map .fv))]⟩) (fun j => j ≤ nb) (fun j => nb - j) 0 (by omega) ?_ ?_
    · skip
      refine St.to [(901, .nil)] [] rfl rfl ?_ ?_ <;> (repeat' (first | exact tA | refine t1 ?_ | exact tB | refine t2 ?_ ?_ | refine t3 ?_ | refine t4 ?_ ?_ | refine .ofEq ?_ | refine OB.To.cut rfl rfl ?_ ?_ ?_ ?_ | refine OB.To.box rfl rfl ?_ | refine ⟨⟨_, rfl, ?_⟩, ?_⟩ | refine ⟨?_, ?_⟩ | fail))
    rintro j hj
    try dsimp only
    by_cases hjl : j < nb
    case pos =>
      have hs1 : (List.range (j + 1)).map (mxOf x) = (List.range j).map (mxOf x) ++ [mxOf x j] := by rw [List.range_succ, List.map_append]; rfl
      have hl1 : ((List.range j).map (mxOf x)).length = j := by rw [List.length_map, List.length_range]
      generalize (List.range j).map (mxOf x) = M at *
      have hpi := pick_le (n := x.c) (m := 3) (by omega)
      repeat' (first
        | (apply X.loE; (· exact aR); (· first | (exact .eff (.bsliceFS (t := 115) rfl rfl rfl rfl rfl rfl)) | (exact .eff (.idxD (enc := encI) (l := [3, 1, 65535]) (0 : Int) rfl rfl rfl (fun _ => rfl) (show 0 ≤ _ ∧ _ < (3 : Int) by omega))) | (refine .eff (.quoT rfl rfl ?_ ?_) <;> first | assumption | omega) | exact .callL rfl rfl rfl ((picked_T _ _ (by omega) (by omega) (by omega))) rfl | (apply LEff.callBL; (· rfl); (· rfl); (· exact (picked_T _ _ (by omega) (by omega) (by omega))); (· exact aB); (· rfl))))
        | refine X.loc ?_
        | refine nx ?_
        | refine X.cdT ?_
        | refine X.cdF ?_
        | (refine WP.condBit rfl ?_ ?_)
        | (refine WP.cond rfl ?_ ?_ <;> intro hcond)
        | (apply X.gsE; (· exact aR); (· exact aV); (· exact aW); (· intro hc; first | (exact .eff (.bsliceFS (t := 115) rfl rfl rfl rfl rfl rfl)) | (exact .eff (.idxD (enc := encI) (l := [3, 1, 65535]) (0 : Int) rfl rfl rfl (fun _ => rfl) (show 0 ≤ _ ∧ _ < (3 : Int) by omega))) | (refine .eff (.quoT rfl rfl ?_ ?_) <;> first | assumption | omega) | exact .callG rfl rfl rfl ((picked_T _ _ (by omega) (by omega) (by omega))) rfl | (apply LEff.callBG; (· rfl); (· rfl); (· exact (picked_T _ _ (by omega) (by omega) (by omega))); (· exact aB); (· rfl))); (· exact aR))
        | refine X.gst ?_ | refine X.gld ?_ | refine X.new ?_ | refine X.app ?_ | refine X.appS ?_ | refine X.stoW ?_ | refine X.stoB ?_ | refine X.stoR ?_ | refine X.gand ?_ | refine X.gor ?_
        | refine nd ?_
        | ((with_reducible apply drwK.mk); (· kernel_rfl); (· exact aF))
        | fail)
      refine ⟨j + 1, by omega, by omega, ?_⟩
      try dsimp only
      rw [hs1]
      refine St.to [(901, .id 66)] [] rfl rfl ?_ ?_ <;> (repeat' (first | exact tA | refine t1 ?_ | exact tB | refine t2 ?_ ?_ | refine t3 ?_ | refine t4 ?_ ?_ | refine .ofEq ?_ | refine OB.To.cut rfl rfl ?_ ?_ ?_ ?_ | refine OB.To.box rfl rfl ?_ | refine ⟨⟨_, rfl, ?_⟩, ?_⟩ | refine ⟨?_, ?_⟩ | fail))
      all_goals first | (simp; done) | (simp only [List.flatMap_append, List.map_append]; rfl)
    case neg =>
      obtain rfl : j = nb := by omega
      have hms : (flOf x).ms = (List.range j).map (mxOf x) := by rw [flOf, hnb, Int.toNat_natCast]
      have hml : ((List.range j).map (mxOf x)).length = j := by rw [List.length_map, List.length_range]
      generalize (List.range j).map (mxOf x) = M at *
      repeat' (first
        | (apply X.loE; (· exact aR); (· first | exact .callL rfl rfl rfl (by first | exact cc | exact (picked_T _ _ (by omega) (by omega) (by omega))) rfl | (apply LEff.callBL; (· rfl); (· rfl); (· exact cc); (· exact aB); (· rfl)) | (apply LEff.callBL; (· rfl); (· rfl); (· exact (picked_T _ _ (by omega) (by omega) (by omega))); (· exact aB); (· rfl))))
        | refine X.loc ?_
        | refine nx ?_
        | refine X.cdT ?_
        | refine X.cdF ?_
        | (refine WP.condBit rfl ?_ ?_)
        | (refine WP.cond rfl ?_ ?_ <;> intro hcond)
        | (apply X.gsE; (· exact aR); (· exact aV); (· exact aW); (· intro hc; first | exact .callG rfl rfl rfl (by first | exact cc | exact (picked_T _ _ (by omega) (by omega) (by omega))) rfl | (apply LEff.callBG; (· rfl); (· rfl); (· exact cc); (· exact aB); (· rfl)) | (apply LEff.callBG; (· rfl); (· rfl); (· exact (picked_T _ _ (by omega) (by omega) (by omega))); (· exact aB); (· rfl))); (· exact aR))
        | refine X.gst ?_ | refine X.gld ?_ | refine X.new ?_ | refine X.app ?_ | refine X.appS ?_ | refine X.stoW ?_ | refine X.stoB ?_ | refine X.stoR ?_ | refine X.gand ?_ | refine X.gor ?_
        | refine nd ?_
        | ((with_reducible apply drwK.mk); (· kernel_rfl); (· exact aF))
        | fail)
      refine WP.loop (ι := Nat) (fun i => ⟨[(0, .fv (slOf encRq l)), (1, .fv (.int .i64 (m : Int))), (5, .osl 900), (6, .fv (.int .i64 k)), (7, .optr 7 0), (8, .optr 8 0), (71, .fv (.int .i64 nc)), (72, .fv (.int .i64 i))], [(900, .row 36 4 L.length ((L.flatMap encFl).map .fv)), (7, .box 67 ((encRq x).map .fv)), (8, .box 36 [.fv (.int .i64 (pick x.kind 4)), .fv (.int .i64 (pick x.a 4)), .osl 901, .osl 902]), (901, .row 30 3 M.length ((M.flatMap encMx).map .fv)), (902, .row 33 3 ((List.range i).map (dxOf x)).length ((((List.range i).map (dxOf x)).flatMap encDx).map .fv))]⟩) (fun i => i ≤ nc) (fun i => nc - i) 0 (by omega) ?_ ?_
      · skip
        refine St.to [(902, .nil)] [] rfl rfl ?_ ?_ <;> (repeat' (first | exact tA | refine t1 ?_ | exact tB | refine t2 ?_ ?_ | refine t3 ?_ | refine t4 ?_ ?_ | refine .ofEq ?_ | refine OB.To.cut rfl rfl ?_ ?_ ?_ ?_ | refine OB.To.box rfl rfl ?_ | refine ⟨⟨_, rfl, ?_⟩, ?_⟩ | refine ⟨?_, ?_⟩ | fail))
      rintro i hi
      try dsimp only
      by_cases hil : i < nc
      case pos =>
        have hs1 : (List.range (i + 1)).map (dxOf x) = (List.range i).map (dxOf x) ++ [dxOf x i] := by rw [List.range_succ, List.map_append]; rfl
        have hl1 : ((List.range i).map (dxOf x)).length = i := by rw [List.length_map, List.length_range]
        generalize (List.range i).map (dxOf x) = D at *
        have hpi := pick_le (n := x.c.tdiv 4 + i) (m := 6) (by omega)
        have hcd := picked_T (x.c.tdiv 4 + i) 6 (by omega) (by omega) (by omega)
        have hdx : dxOf x i = match (pick (x.c.tdiv 4 + i) 6).toNat with
          | 0 => ⟨1, pick (x.a.tdiv 16) 10, pick (x.b.tdiv 9) 10⟩
          | 1 => ⟨2, pick (x.a.tdiv 16) 10, pick (x.b.tdiv 9) 10⟩
          | 2 => ⟨3, pick (x.a.tdiv 16) 10, 0⟩
          | 3 => ⟨5, 0, 9⟩
          | 4 => ⟨5, 0, pick x.b 6⟩
          | _ => ⟨6, 0, pick x.b 6⟩ := rfl
        generalize pick (x.c.tdiv 4 + i) 6 = kd at *
        obtain ⟨kn, rfl⟩ : ∃ n : Nat, kd = n := ⟨kd.toNat, by omega⟩
        rw [Int.toNat_natCast] at hdx
        rcases (show kn = 0 ∨ kn = 1 ∨ kn = 2 ∨ kn = 3 ∨ kn = 4 ∨ kn = 5 by omega) with rfl | rfl | rfl | rfl | rfl | rfl
        · replace hdx : dxOf x i = _ := hdx
          rw [hdx] at hs1
          repeat' (first
            | (apply X.loE; (· exact aR); (· first | (refine .eff (.quoT rfl rfl ?_ ?_) <;> first | assumption | omega) | exact .callL rfl rfl rfl (by first | exact hcd | exact (picked_T _ _ (by omega) (by omega) (by omega))) rfl | (apply LEff.callBL; (· rfl); (· rfl); (· exact hcd); (· exact aB); (· rfl)) | (apply LEff.callBL; (· rfl); (· rfl); (· exact (picked_T _ _ (by omega) (by omega) (by omega))); (· exact aB); (· rfl))))
            | refine X.loc ?_
            | refine nx ?_
            | refine X.cdT ?_
            | refine X.cdF ?_
            | (refine WP.condBit rfl ?_ ?_)
            | (refine WP.cond rfl ?_ ?_ <;> intro hcond)
            | (apply X.gsE; (· exact aR); (· exact aV); (· exact aW); (· intro hc; first | (refine .eff (.quoT rfl rfl ?_ ?_) <;> first | assumption | omega) | exact .callG rfl rfl rfl (by first | exact hcd | exact (picked_T _ _ (by omega) (by omega) (by omega))) rfl | (apply LEff.callBG; (· rfl); (· rfl); (· exact hcd); (· exact aB); (· rfl)) | (apply LEff.callBG; (· rfl); (· rfl); (· exact (picked_T _ _ (by omega) (by omega) (by omega))); (· exact aB); (· rfl))); (· exact aR))
            | refine X.gst ?_ | refine X.gld ?_ | refine X.new ?_ | refine X.app ?_ | refine X.appS ?_ | refine X.stoW ?_ | refine X.stoB ?_ | refine X.stoR ?_ | refine X.gand ?_ | refine X.gor ?_
            | refine nd ?_
            | ((with_reducible apply drwK.mk); (· kernel_rfl); (· exact aF))
            | fail)
          refine ⟨i + 1, by omega, by omega, ?_⟩
          try dsimp only
          rw [hs1]
          refine St.to [(902, .id 116)] [] rfl rfl ?_ ?_ <;> (repeat' (first | exact tA | refine t1 ?_ | exact tB | refine t2 ?_ ?_ | refine t3 ?_ | refine t4 ?_ ?_ | refine .ofEq ?_ | refine OB.To.cut rfl rfl ?_ ?_ ?_ ?_ | refine OB.To.box rfl rfl ?_ | refine ⟨⟨_, rfl, ?_⟩, ?_⟩ | refine ⟨?_, ?_⟩ | fail))
          all_goals first | (simp; done) | (simp only [List.flatMap_append, List.map_append]; rfl)
        · replace hdx : dxOf x i = _ := hdx
          rw [hdx] at hs1
          repeat' (first
            | (apply X.loE; (· exact aR); (· first | (refine .eff (.quoT rfl rfl ?_ ?_) <;> first | assumption | omega) | exact .callL rfl rfl rfl (by first | exact hcd | exact (picked_T _ _ (by omega) (by omega) (by omega))) rfl | (apply LEff.callBL; (· rfl); (· rfl); (· exact hcd); (· exact aB); (· rfl)) | (apply LEff.callBL; (· rfl); (· rfl); (· exact (picked_T _ _ (by omega) (by omega) (by omega))); (· exact aB); (· rfl))))
            | refine X.loc ?_
            | refine nx ?_
            | refine X.cdT ?_
            | refine X.cdF ?_
            | (refine WP.condBit rfl ?_ ?_)
            | (refine WP.cond rfl ?_ ?_ <;> intro hcond)
            | (apply X.gsE; (· exact aR); (· exact aV); (· exact aW); (· intro hc; first | (refine .eff (.quoT rfl rfl ?_ ?_) <;> first | assumption | omega) | exact .callG rfl rfl rfl (by first | exact hcd | exact (picked_T _ _ (by omega) (by omega) (by omega))) rfl | (apply LEff.callBG; (· rfl); (· rfl); (· exact hcd); (· exact aB); (· rfl)) | (apply LEff.callBG; (· rfl); (· rfl); (· exact (picked_T _ _ (by omega) (by omega) (by omega))); (· exact aB); (· rfl))); (· exact aR))
            | refine X.gst ?_ | refine X.gld ?_ | refine X.new ?_ | refine X.app ?_ | refine X.appS ?_ | refine X.stoW ?_ | refine X.stoB ?_ | refine X.stoR ?_ | refine X.gand ?_ | refine X.gor ?_
            | refine nd ?_
            | ((with_reducible apply drwK.mk); (· kernel_rfl); (· exact aF))
            | fail)
          refine ⟨i + 1, by omega, by omega, ?_⟩
          try dsimp only
          rw [hs1]
          refine St.to [(902, .id 116)] [] rfl rfl ?_ ?_ <;> (repeat' (first | exact tA | refine t1 ?_ | exact tB | refine t2 ?_ ?_ | refine t3 ?_ | refine t4 ?_ ?_ | refine .ofEq ?_ | refine OB.To.cut rfl rfl ?_ ?_ ?_ ?_ | refine OB.To.box rfl rfl ?_ | refine ⟨⟨_, rfl, ?_⟩, ?_⟩ | refine ⟨?_, ?_⟩ | fail))
          all_goals first | (simp; done) | (simp only [List.flatMap_append, List.map_append]; rfl)
        · replace hdx : dxOf x i = _ := hdx
          rw [hdx] at hs1
          repeat' (first
            | (apply X.loE; (· exact aR); (· first | (refine .eff (.quoT rfl rfl ?_ ?_) <;> first | assumption | omega) | exact .callL rfl rfl rfl (by first | exact hcd | exact (picked_T _ _ (by omega) (by omega) (by omega))) rfl | (apply LEff.callBL; (· rfl); (· rfl); (· exact hcd); (· exact aB); (· rfl)) | (apply LEff.callBL; (· rfl); (· rfl); (· exact (picked_T _ _ (by omega) (by omega) (by omega))); (· exact aB); (· rfl))))
            | refine X.loc ?_
            | refine nx ?_
            | refine X.cdT ?_
            | refine X.cdF ?_
            | (refine WP.condBit rfl ?_ ?_)
            | (refine WP.cond rfl ?_ ?_ <;> intro hcond)
            | (apply X.gsE; (· exact aR); (· exact aV); (· exact aW); (· intro hc; first | (refine .eff (.quoT rfl rfl ?_ ?_) <;> first | assumption | omega) | exact .callG rfl rfl rfl (by first | exact hcd | exact (picked_T _ _ (by omega) (by omega) (by omega))) rfl | (apply LEff.callBG; (· rfl); (· rfl); (· exact hcd); (· exact aB); (· rfl)) | (apply LEff.callBG; (· rfl); (· rfl); (· exact (picked_T _ _ (by omega) (by omega) (by omega))); (· exact aB); (· rfl))); (· exact aR))
            | refine X.gst ?_ | refine X.gld ?_ | refine X.new ?_ | refine X.app ?_ | refine X.appS ?_ | refine X.stoW ?_ | refine X.stoB ?_ | refine X.stoR ?_ | refine X.gand ?_ | refine X.gor ?_
            | refine nd ?_
            | ((with_reducible apply drwK.mk); (· kernel_rfl); (· exact aF))
            | fail)
          refine ⟨i + 1, by omega, by omega, ?_⟩
          try dsimp only
          rw [hs1]
          refine St.to [(902, .id 116)] [] rfl rfl ?_ ?_ <;> (repeat' (first | exact tA | refine t1 ?_ | exact tB | refine t2 ?_ ?_ | refine t3 ?_ | refine t4 ?_ ?_ | refine .ofEq ?_ | refine OB.To.cut rfl rfl ?_ ?_ ?_ ?_ | refine OB.To.box rfl rfl ?_ | refine ⟨⟨_, rfl, ?_⟩, ?_⟩ | refine ⟨?_, ?_⟩ | fail))
          all_goals first | (simp; done) | (simp only [List.flatMap_append, List.map_append]; rfl)
        · replace hdx : dxOf x i = _ := hdx
          rw [hdx] at hs1
          repeat' (first
            | (apply X.loE; (· exact aR); (· first | (refine .eff (.quoT rfl rfl ?_ ?_) <;> first | assumption | omega) | exact .callL rfl rfl rfl (by first | exact hcd | exact (picked_T _ _ (by omega) (by omega) (by omega))) rfl | (apply LEff.callBL; (· rfl); (· rfl); (· exact hcd); (· exact aB); (· rfl)) | (apply LEff.callBL; (· rfl); (· rfl); (· exact (picked_T _ _ (by omega) (by omega) (by omega))); (· exact aB); (· rfl))))
            | refine X.loc ?_
            | refine nx ?_
            | refine X.cdT ?_
            | refine X.cdF ?_
            | (refine WP.condBit rfl ?_ ?_)
            | (refine WP.cond rfl ?_ ?_ <;> intro hcond)
            | (apply X.gsE; (· exact aR); (· exact aV); (· exact aW); (· intro hc; first | (refine .eff (.quoT rfl rfl ?_ ?_) <;> first | assumption | omega) | exact .callG rfl rfl rfl (by first | exact hcd | exact (picked_T _ _ (by omega) (by omega) (by omega))) rfl | (apply LEff.callBG; (· rfl); (· rfl); (· exact hcd); (· exact aB); (· rfl)) | (apply LEff.callBG; (· rfl); (· rfl); (· exact (picked_T _ _ (by omega) (by omega) (by omega))); (· exact aB); (· rfl))); (· exact aR))
            | refine X.gst ?_ | refine X.gld ?_ | refine X.new ?_ | refine X.app ?_ | refine X.appS ?_ | refine X.stoW ?_ | refine X.stoB ?_ | refine X.stoR ?_ | refine X.gand ?_ | refine X.gor ?_
            | refine nd ?_
            | ((with_reducible apply drwK.mk); (· kernel_rfl); (· exact aF))
            | fail)
          refine ⟨i + 1, by omega, by omega, ?_⟩
          try dsimp only
          rw [hs1]
          refine St.to [(902, .id 116)] [] rfl rfl ?_ ?_ <;> (repeat' (first | exact tA | refine t1 ?_ | exact tB | refine t2 ?_ ?_ | refine t3 ?_ | refine t4 ?_ ?_ | refine .ofEq ?_ | refine OB.To.cut rfl rfl ?_ ?_ ?_ ?_ | refine OB.To.box rfl rfl ?_ | refine ⟨⟨_, rfl, ?_⟩, ?_⟩ | refine ⟨?_, ?_⟩ | fail))
          all_goals first | (simp; done) | (simp only [List.flatMap_append, List.map_append]; rfl)
        · replace hdx : dxOf x i = _ := hdx
          rw [hdx] at hs1
          repeat' (first
            | (apply X.loE; (· exact aR); (· first | (refine .eff (.quoT rfl rfl ?_ ?_) <;> first | assumption | omega) | exact .callL rfl rfl rfl (by first | exact hcd | exact (picked_T _ _ (by omega) (by omega) (by omega))) rfl | (apply LEff.callBL; (· rfl); (· rfl); (· exact hcd); (· exact aB); (· rfl)) | (apply LEff.callBL; (· rfl); (· rfl); (· exact (picked_T _ _ (by omega) (by omega) (by omega))); (· exact aB); (· rfl))))
            | refine X.loc ?_
            | refine nx ?_
            | refine X.cdT ?_
            | refine X.cdF ?_
            | (refine WP.condBit rfl ?_ ?_)
            | (refine WP.cond rfl ?_ ?_ <;> intro hcond)
            | (apply X.gsE; (· exact aR); (· exact aV); (· exact aW); (· intro hc; first | (refine .eff (.quoT rfl rfl ?_ ?_) <;> first | assumption | omega) | exact .callG rfl rfl rfl (by first | exact hcd | exact (picked_T _ _ (by omega) (by omega) (by omega))) rfl | (apply LEff.callBG; (· rfl); (· rfl); (· exact hcd); (· exact aB); (· rfl)) | (apply LEff.callBG; (· rfl); (· rfl); (· exact (picked_T _ _ (by omega) (by omega) (by omega))); (· exact aB); (· rfl))); (· exact aR))
            | refine X.gst ?_ | refine X.gld ?_ | refine X.new ?_ | refine X.app ?_ | refine X.appS ?_ | refine X.stoW ?_ | refine X.stoB ?_ | refine X.stoR ?_ | refine X.gand ?_ | refine X.gor ?_
            | refine nd ?_
            | ((with_reducible apply drwK.mk); (· kernel_rfl); (· exact aF))
            | fail)
          refine ⟨i + 1, by omega, by omega, ?_⟩
          try dsimp only
          rw [hs1]
          refine St.to [(902, .id 116)] [] rfl rfl ?_ ?_ <;> (repeat' (first | exact tA | refine t1 ?_ | exact tB | refine t2 ?_ ?_ | refine t3 ?_ | refine t4 ?_ ?_ | refine .ofEq ?_ | refine OB.To.cut rfl rfl ?_ ?_ ?_ ?_ | refine OB.To.box rfl rfl ?_ | refine ⟨⟨_, rfl, ?_⟩, ?_⟩ | refine ⟨?_, ?_⟩ | fail))
          all_goals first | (simp; done) | (simp only [List.flatMap_append, List.map_append]; rfl)
        · replace hdx : dxOf x i = _ := hdx
          rw [hdx] at hs1
          repeat' (first
            | (apply X.loE; (· exact aR); (· first | (refine .eff (.quoT rfl rfl ?_ ?_) <;> first | assumption | omega) | exact .callL rfl rfl rfl (by first | exact hcd | exact (picked_T _ _ (by omega) (by omega) (by omega))) rfl | (apply LEff.callBL; (· rfl); (· rfl); (· exact hcd); (· exact aB); (· rfl)) | (apply LEff.callBL; (· rfl); (· rfl); (· exact (picked_T _ _ (by omega) (by omega) (by omega))); (· exact aB); (· rfl))))
            | refine X.loc ?_
            | refine nx ?_
            | refine X.cdT ?_
            | refine X.cdF ?_
            | (refine WP.condBit rfl ?_ ?_)
            | (refine WP.cond rfl ?_ ?_ <;> intro hcond)
            | (apply X.gsE; (· exact aR); (· exact aV); (· exact aW); (· intro hc; first | (refine .eff (.quoT rfl rfl ?_ ?_) <;> first | assumption | omega) | exact .callG rfl rfl rfl (by first | exact hcd | exact (picked_T _ _ (by omega) (by omega) (by omega))) rfl | (apply LEff.callBG; (· rfl); (· rfl); (· exact hcd); (· exact aB); (· rfl)) | (apply LEff.callBG; (· rfl); (· rfl); (· exact (picked_T _ _ (by omega) (by omega) (by omega))); (· exact aB); (· rfl))); (· exact aR))
            | refine X.gst ?_ | refine X.gld ?_ | refine X.new ?_ | refine X.app ?_ | refine X.appS ?_ | refine X.stoW ?_ | refine X.stoB ?_ | refine X.stoR ?_ | refine X.gand ?_ | refine X.gor ?_
            | refine nd ?_
            | ((with_reducible apply drwK.mk); (· kernel_rfl); (· exact aF))
            | fail)
          refine ⟨i + 1, by omega, by omega, ?_⟩
          try dsimp only
          rw [hs1]
          refine St.to [(902, .id 116)] [] rfl rfl ?_ ?_ <;> (repeat' (first | exact tA | refine t1 ?_ | exact tB | refine t2 ?_ ?_ | refine t3 ?_ | refine t4 ?_ ?_ | refine .ofEq ?_ | refine OB.To.cut rfl rfl ?_ ?_ ?_ ?_ | refine OB.To.box rfl rfl ?_ | refine ⟨⟨_, rfl, ?_⟩, ?_⟩ | refine ⟨?_, ?_⟩ | fail))
          all_goals first | (simp; done) | (simp only [List.flatMap_append, List.map_append]; rfl)
      case neg =>
        obtain rfl : i = nc := by omega
        have hds : (flOf x).ds = (List.range i).map (dxOf x) ++ gotoOf x := by rw [flOf, hnc, Int.toNat_natCast]
        have hdl : ((List.range i).map (dxOf x)).length = i := by rw [List.length_map, List.length_range]
        have hft : (flOf x).table = pick x.kind 4 := rfl
        have hfp : (flOf x).prio = pick x.a 4 := rfl
        generalize (List.range i).map (dxOf x) = D at *
        have p1 := pick_le (n := x.kind) (m := 4) (by omega)
        have p2 := pick_le (n := x.kind.tdiv 4) (m := 2) (by omega)
        have p3 := pick_le (n := x.kind.tdiv 8) (m := 3) (by omega)
        have hgo : gotoOf x = if pick x.kind 4 < 3 ∧ pick (x.kind.tdiv 4) 2 = 0 then [⟨4, 0, pick x.kind 4 + 1 + pick (x.kind.tdiv 8) 3⟩] else [] := rfl
        generalize flOf x = F at *
        obtain ⟨ft, fp, fms, fds⟩ := F
        dsimp only at hms hds hft hfp
        subst hms hds hft hfp
        by_cases hg : pick x.kind 4 < 3 ∧ pick (x.kind.tdiv 4) 2 = 0
        · rw [if_pos hg] at hgo
          rw [hgo] at hsn
          repeat' (first
            | (apply X.loE; (· exact aR); (· first | (refine .eff (.quoT rfl rfl ?_ ?_) <;> first | assumption | omega) | exact .callL rfl rfl rfl ((picked_T _ _ (by omega) (by omega) (by omega))) rfl | (apply LEff.callBL; (· rfl); (· rfl); (· exact (picked_T _ _ (by omega) (by omega) (by omega))); (· exact aB); (· rfl))))
            | refine X.loc ?_
            | refine nx ?_
            | refine X.cdT ?_
            | refine X.cdF ?_
            | (refine WP.condBit rfl ?_ ?_)
            | (refine WP.cond rfl ?_ ?_ <;> intro hcond)
            | (apply X.gsE; (· exact aR); (· exact aV); (· exact aW); (· intro hc; first | (refine .eff (.quoT rfl rfl ?_ ?_) <;> first | assumption | omega) | exact .callG rfl rfl rfl ((picked_T _ _ (by omega) (by omega) (by omega))) rfl | (apply LEff.callBG; (· rfl); (· rfl); (· exact (picked_T _ _ (by omega) (by omega) (by omega))); (· exact aB); (· rfl))); (· exact aR))
            | refine X.gst ?_ | refine X.gld ?_ | refine X.new ?_ | refine X.app ?_ | refine X.appS ?_ | refine X.stoW ?_ | refine X.stoB ?_ | refine X.stoR ?_ | refine X.gand ?_ | refine X.gor ?_
            | refine nd ?_
            | ((with_reducible apply drwK.mk); (· kernel_rfl); (· exact aF))
            | fail)
          refine ⟨k + 1, by omega, by omega, ?_⟩
          have e : ∀ g : Fl, ((L ++ [g]).flatMap encFl).map AV.fv = (L.flatMap encFl).map .fv ++ [.fv (.int .i64 g.table), .fv (.int .i64 g.prio), .fv (slOf encMx g.ms), .fv (slOf encDx g.ds)] := fun g => by
            rw [List.flatMap_append, List.map_append]
            rfl
          try dsimp only
          rw [hsn, e]
          refine St.to [(900, .id 146)] [901, 141] rfl rfl ?_ ?_ <;> (repeat' (first | apply AV.ToL.app (AV.ToL.maps rfl) | exact tA | refine t1 ?_ | exact tB | refine t2 ?_ ?_ | refine t3 ?_ | refine t4 ?_ ?_ | refine .ofEq ?_ | refine OB.To.cut rfl rfl ?_ ?_ ?_ ?_ | refine OB.To.box rfl rfl ?_ | refine ⟨⟨_, rfl, ?_⟩, ?_⟩ | refine ⟨?_, ?_⟩ | fail))
          all_goals first | (simp; done) | (simp only [List.flatMap_append, List.map_append]; rfl)
        · rw [if_neg hg] at hgo
          rw [hgo, List.append_nil] at hsn
          repeat' (first
            | (apply X.loE; (· exact aR); (· first | (refine .eff (.quoT rfl rfl ?_ ?_) <;> first | assumption | omega) | exact .callL rfl rfl rfl ((picked_T _ _ (by omega) (by omega) (by omega))) rfl | (apply LEff.callBL; (· rfl); (· rfl); (· exact (picked_T _ _ (by omega) (by omega) (by omega))); (· exact aB); (· rfl))))
            | refine X.loc ?_
            | refine nx ?_
            | refine X.cdT ?_
            | refine X.cdF ?_
            | (refine WP.condBit rfl ?_ ?_)
            | (refine WP.cond rfl ?_ ?_ <;> intro hcond)
            | (apply X.gsE; (· exact aR); (· exact aV); (· exact aW); (· intro hc; first | (refine .eff (.quoT rfl rfl ?_ ?_) <;> first | assumption | omega) | exact .callG rfl rfl rfl ((picked_T _ _ (by omega) (by omega) (by omega))) rfl | (apply LEff.callBG; (· rfl); (· rfl); (· exact (picked_T _ _ (by omega) (by omega) (by omega))); (· exact aB); (· rfl))); (· exact aR))
            | refine X.gst ?_ | refine X.gld ?_ | refine X.new ?_ | refine X.app ?_ | refine X.appS ?_ | refine X.stoW ?_ | refine X.stoB ?_ | refine X.stoR ?_ | refine X.gand ?_ | refine X.gor ?_
            | refine nd ?_
            | ((with_reducible apply drwK.mk); (· kernel_rfl); (· exact aF))
            | fail)
          refine ⟨k + 1, by omega, by omega, ?_⟩
          have e : ∀ g : Fl, ((L ++ [g]).flatMap encFl).map AV.fv = (L.flatMap encFl).map .fv ++ [.fv (.int .i64 g.table), .fv (.int .i64 g.prio), .fv (slOf encMx g.ms), .fv (slOf encDx g.ds)] := fun g => by
            rw [List.flatMap_append, List.map_append]
            rfl
          try dsimp only
          rw [hsn, e]
          refine St.to [(900, .id 146)] [901, 902] rfl rfl ?_ ?_ <;> (repeat' (first | apply AV.ToL.app (AV.ToL.maps rfl) | exact tA | refine t1 ?_ | exact tB | refine t2 ?_ ?_ | refine t3 ?_ | refine t4 ?_ ?_ | refine .ofEq ?_ | refine OB.To.cut rfl rfl ?_ ?_ ?_ ?_ | refine OB.To.box rfl rfl ?_ | refine ⟨⟨_, rfl, ?_⟩, ?_⟩ | refine ⟨?_, ?_⟩ | fail))
          all_goals first | (simp; done) | (simp only [List.flatMap_append, List.map_append]; rfl)
end Go.Proofs.Ytdbbmjdeeenlhaa

/- The order of flows, as the program finds it. -/
namespace Go.Proofs.Ytdbbmjdeeenlhaa
open Go.RowKit
set_option maxRecDepth 100000

theorem encI_len (n : Int) : (encI n).length = 1 := rfl
theorem isNaN_T (n : Int) : Fun Try.prog 157 [.fv (.int .i64 n)] (.fv (.bool false)) := by
  refine Fun.body tbl_ok Try.func157 rfl (by kernel_rfl) rfl rfl rfl ?_
  repeat' (first
    | refine X.loc ?_
    | refine nx ?_
    | (refine WP.condBit rfl ?_ ?_)
    | (refine WP.cond rfl ?_ ?_ <;> intro hcond)
    | refine X.gst ?_ | refine X.gld ?_ | refine X.new ?_ | refine X.app ?_ | refine X.appS ?_ | refine X.stoW ?_ | refine X.stoB ?_ | refine X.stoR ?_ | refine X.gand ?_ | refine X.gor ?_
    | refine nd ?_
    | ((with_reducible apply drwK.mk); (· kernel_rfl); (· exact aF))
    | fail)
  refine .f1 (.inl rfl) rfl ?_
  simp
theorem compare_T (a b : Int) : Fun Try.prog 121 [.fv (.int .i64 a), .fv (.int .i64 b)] (.fv (.int .i64 (cmpI a b))) := by
  refine Fun.body tbl_ok Try.func121 rfl (by kernel_rfl) rfl rfl rfl ?_
  by_cases h1 : a < b
  · have e : cmpI a b = -1 := if_pos h1
    rw [e]
    repeat' (first
      | (apply X.loE; (· exact aR); (· first | exact .callL rfl rfl rfl (by first | exact isNaN_T a | exact isNaN_T b) rfl | (apply LEff.callBL; (· rfl); (· rfl); (· exact isNaN_T a); (· exact aB); (· rfl)) | (apply LEff.callBL; (· rfl); (· rfl); (· exact isNaN_T b); (· exact aB); (· rfl))))
      | refine X.loc ?_
      | refine nx ?_
      | refine X.cdT ?_
      | refine X.cdF ?_
      | (refine WP.condBit rfl ?_ ?_)
      | (refine WP.cond rfl ?_ ?_ <;> intro hcond)
      | (apply X.gsE; (· exact aR); (· exact aV); (· exact aW); (· intro hc; first | exact .callG rfl rfl rfl (by first | exact isNaN_T a | exact isNaN_T b) rfl | (apply LEff.callBG; (· rfl); (· rfl); (· exact isNaN_T a); (· exact aB); (· rfl)) | (apply LEff.callBG; (· rfl); (· rfl); (· exact isNaN_T b); (· exact aB); (· rfl))); (· exact aR))
      | refine X.gst ?_ | refine X.gld ?_ | refine X.new ?_ | refine X.app ?_ | refine X.appS ?_ | refine X.stoW ?_ | refine X.stoB ?_ | refine X.stoR ?_ | refine X.gand ?_ | refine X.gor ?_
      | refine nd ?_
      | ((with_reducible apply drwK.mk); (· kernel_rfl); (· exact aF))
      | fail)
    exact .f1 (.inl rfl) rfl rfl
  · by_cases h2 : b < a
    · have e : cmpI a b = 1 := by rw [cmpI, if_neg h1, if_pos h2]
      rw [e]
      repeat' (first
        | (apply X.loE; (· exact aR); (· first | exact .callL rfl rfl rfl (by first | exact isNaN_T a | exact isNaN_T b) rfl | (apply LEff.callBL; (· rfl); (· rfl); (· exact isNaN_T a); (· exact aB); (· rfl)) | (apply LEff.callBL; (· rfl); (· rfl); (· exact isNaN_T b); (· exact aB); (· rfl))))
        | refine X.loc ?_
        | refine nx ?_
        | refine X.cdT ?_
        | refine X.cdF ?_
        | (refine WP.condBit rfl ?_ ?_)
        | (refine WP.cond rfl ?_ ?_ <;> intro hcond)
        | (apply X.gsE; (· exact aR); (· exact aV); (· exact aW); (· intro hc; first | exact .callG rfl rfl rfl (by first | exact isNaN_T a | exact isNaN_T b) rfl | (apply LEff.callBG; (· rfl); (· rfl); (· exact isNaN_T a); (· exact aB); (· rfl)) | (apply LEff.callBG; (· rfl); (· rfl); (· exact isNaN_T b); (· exact aB); (· rfl))); (· exact aR))
        | refine X.gst ?_ | refine X.gld ?_ | refine X.new ?_ | refine X.app ?_ | refine X.appS ?_ | refine X.stoW ?_ | refine X.stoB ?_ | refine X.stoR ?_ | refine X.gand ?_ | refine X.gor ?_
        | refine nd ?_
        | ((with_reducible apply drwK.mk); (· kernel_rfl); (· exact aF))
        | fail)
      exact .f1 (.inl rfl) rfl rfl
    · have e : cmpI a b = 0 := by rw [cmpI, if_neg h1, if_neg h2]
      rw [e]
      repeat' (first
        | (apply X.loE; (· exact aR); (· first | exact .callL rfl rfl rfl (by first | exact isNaN_T a | exact isNaN_T b) rfl | (apply LEff.callBL; (· rfl); (· rfl); (· exact isNaN_T a); (· exact aB); (· rfl)) | (apply LEff.callBL; (· rfl); (· rfl); (· exact isNaN_T b); (· exact aB); (· rfl))))
        | refine X.loc ?_
        | refine nx ?_
        | refine X.cdT ?_
        | refine X.cdF ?_
        | (refine WP.condBit rfl ?_ ?_)
        | (refine WP.cond rfl ?_ ?_ <;> intro hcond)
        | (apply X.gsE; (· exact aR); (· exact aV); (· exact aW); (· intro hc; first | exact .callG rfl rfl rfl (by first | exact isNaN_T a | exact isNaN_T b) rfl | (apply LEff.callBG; (· rfl); (· rfl); (· exact isNaN_T a); (· exact aB); (· rfl)) | (apply LEff.callBG; (· rfl); (· rfl); (· exact isNaN_T b); (· exact aB); (· rfl))); (· exact aR))
        | refine X.gst ?_ | refine X.gld ?_ | refine X.new ?_ | refine X.app ?_ | refine X.appS ?_ | refine X.stoW ?_ | refine X.stoB ?_ | refine X.stoR ?_ | refine X.gand ?_ | refine X.gor ?_
        | refine nd ?_
        | ((with_reducible apply drwK.mk); (· kernel_rfl); (· exact aF))
        | fail)
      exact .f1 (.inl rfl) rfl rfl
theorem compareL_T (l m : List Int) (hl : l.length < 9223372036854775807) (hm : m.length < 9223372036854775807) : Fun Try.prog 122 [.fv (slOf encI l), .fv (slOf encI m)] (.fv (.int .i64 (cmpL l m))) := by
  refine Fun.body tbl_ok Try.func122 rfl (by kernel_rfl) rfl rfl rfl ?_
  repeat' (first
    | refine X.loc ?_
    | refine nx ?_
    | (refine WP.condBit rfl ?_ ?_)
    | (refine WP.cond rfl ?_ ?_ <;> intro hcond)
    | refine X.gst ?_ | refine X.gld ?_ | refine X.new ?_ | refine X.app ?_ | refine X.appS ?_ | refine X.stoW ?_ | refine X.stoB ?_ | refine X.stoR ?_ | refine X.gand ?_ | refine X.gor ?_
    | refine nd ?_
    | ((with_reducible apply drwK.mk); (· kernel_rfl); (· exact aF))
    | fail)
  refine WP.loop (ι := Nat) (fun k => ⟨[(0, .fv (slOf encI l)), (1, .fv (slOf encI m)), (9, .fv (slOf encI l)), (10, .fv (.int .i64 l.length)), (11, .fv (.int .i64 k))], []⟩) (fun k => k ≤ l.length ∧ k ≤ m.length ∧ cmpL l m = cmpL (l.drop k) (m.drop k)) (fun k => l.length - k) 0 ⟨by omega, by omega, rfl⟩ ?_ ?_
  · skip
    refine St.le_of ?_ ?_ <;> (repeat' (first | exact trivial | refine ⟨⟨_, rfl, .refl _⟩, ?_⟩ | refine ⟨⟨_, rfl, .any _⟩, ?_⟩ | refine ⟨⟨_, rfl, .of_eq ?_⟩, ?_⟩ | refine ⟨⟨_, rfl, fun _ _ _ _ h => h⟩, ?_⟩ | fail))
  rintro k ⟨hk, hkm, he⟩
  try dsimp only
  by_cases hlt : k < l.length
  case neg =>
    have hd : l.drop k = [] := List.drop_eq_nil_of_le (by omega)
    rw [he, hd]
    by_cases h2 : l.length < m.length
    · obtain ⟨y, r, hy⟩ : ∃ y r, m.drop k = y :: r := ⟨_, _, List.drop_eq_getElem_cons (by omega)⟩
      rw [hy, cmpL]
      repeat' (first
        | refine X.loc ?_
        | refine nx ?_
        | refine X.cdT ?_
        | refine X.cdF ?_
        | (refine WP.condBit rfl ?_ ?_)
        | (refine WP.cond rfl ?_ ?_ <;> intro hcond)
        | refine X.gst ?_ | refine X.gld ?_ | refine X.new ?_ | refine X.app ?_ | refine X.appS ?_ | refine X.stoW ?_ | refine X.stoB ?_ | refine X.stoR ?_ | refine X.gand ?_ | refine X.gor ?_
        | refine nd ?_
        | ((with_reducible apply drwK.mk); (· kernel_rfl); (· exact aF))
        | fail)
      exact .f1 (.inl rfl) rfl rfl
    · rw [List.drop_eq_nil_of_le (show m.length ≤ k by omega), cmpL]
      repeat' (first
        | refine X.loc ?_
        | refine nx ?_
        | refine X.cdT ?_
        | refine X.cdF ?_
        | (refine WP.condBit rfl ?_ ?_)
        | (refine WP.cond rfl ?_ ?_ <;> intro hcond)
        | refine X.gst ?_ | refine X.gld ?_ | refine X.new ?_ | refine X.app ?_ | refine X.appS ?_ | refine X.stoW ?_ | refine X.stoB ?_ | refine X.stoR ?_ | refine X.gand ?_ | refine X.gor ?_
        | refine nd ?_
        | ((with_reducible apply drwK.mk); (· kernel_rfl); (· exact aF))
        | fail)
      exact .f1 (.inl rfl) rfl rfl
  case pos =>
    obtain ⟨x, hx⟩ : ∃ x, l[k]? = some x := ⟨_, List.getElem?_eq_getElem hlt⟩
    have hdx : l.drop k = x :: l.drop (k + 1) := by rw [List.drop_eq_getElem_cons hlt, (List.getElem?_eq_some_iff.1 hx).2]
    by_cases h2 : k < m.length
    case neg =>
      rw [he, hdx, List.drop_eq_nil_of_le (show m.length ≤ k by omega), cmpL]
      repeat' (first
        | refine X.loc ?_
        | refine nx ?_
        | refine X.cdT ?_
        | refine X.cdF ?_
        | (refine WP.condBit rfl ?_ ?_)
        | (refine WP.cond rfl ?_ ?_ <;> intro hcond)
        | refine X.gst ?_ | refine X.gld ?_ | refine X.new ?_ | refine X.app ?_ | refine X.appS ?_ | refine X.stoW ?_ | refine X.stoB ?_ | refine X.stoR ?_ | refine X.gand ?_ | refine X.gor ?_
        | refine nd ?_
        | ((with_reducible apply drwK.mk); (· kernel_rfl); (· exact aF))
        | fail)
      exact .f1 (.inl rfl) rfl rfl
    case pos =>
      obtain ⟨y, hy⟩ : ∃ y, m[k]? = some y := ⟨_, List.getElem?_eq_getElem h2⟩
      have hdy : m.drop k = y :: m.drop (k + 1) := by rw [List.drop_eq_getElem_cons h2, (List.getElem?_eq_some_iff.1 hy).2]
      rw [hdx, hdy, cmpL] at he
      have hc := compare_T x y
      generalize cmpI x y = c at *
      by_cases h0 : c = 0
      · rw [if_neg (by omega)] at he
        subst h0
        repeat' (first
          | (apply X.loE; (· exact aR); (· first | exact .callL rfl rfl rfl (hc) rfl | (apply LEff.callBL; (· rfl); (· rfl); (· exact hc); (· exact aB); (· rfl))))
          | refine X.loc ?_
          | refine nx ?_
          | refine X.cdT ?_
          | refine X.cdF ?_
          | (refine WP.condBit rfl ?_ ?_)
          | (refine WP.cond rfl ?_ ?_ <;> intro hcond)
          | (apply X.gsE; (· exact aR); (· exact aV); (· exact aW); (· intro hc; first | exact .callG rfl rfl rfl (hc) rfl | (apply LEff.callBG; (· rfl); (· rfl); (· exact hc); (· exact aB); (· rfl))); (· exact aR))
          | refine X.gst ?_ | refine X.gld ?_ | refine X.new ?_ | refine X.app ?_ | refine X.appS ?_ | refine X.stoW ?_ | refine X.stoB ?_ | refine X.stoR ?_ | refine X.gand ?_ | refine X.gor ?_
          | refine nd ?_
          | ((with_reducible apply drwK.mk); (· kernel_rfl); (· exact aF))
          | fail)
        refine ⟨k + 1, ⟨by omega, by omega, he⟩, by omega, ?_⟩
        refine St.le_of ?_ ?_ <;> (repeat' (first | exact trivial | refine ⟨⟨_, rfl, .refl _⟩, ?_⟩ | refine ⟨⟨_, rfl, .any _⟩, ?_⟩ | refine ⟨⟨_, rfl, .of_eq ?_⟩, ?_⟩ | refine ⟨⟨_, rfl, fun _ _ _ _ h => h⟩, ?_⟩ | fail))
      · rw [if_pos h0] at he
        rw [he]
        repeat' (first
          | (apply X.loE; (· exact aR); (· first | exact .callL rfl rfl rfl (hc) rfl | (apply LEff.callBL; (· rfl); (· rfl); (· exact hc); (· exact aB); (· rfl))))
          | refine X.loc ?_
          | refine nx ?_
          | refine X.cdT ?_
          | refine X.cdF ?_
          | (refine WP.condBit rfl ?_ ?_)
          | (refine WP.cond rfl ?_ ?_ <;> intro hcond)
          | (apply X.gsE; (· exact aR); (· exact aV); (· exact aW); (· intro hc; first | exact .callG rfl rfl rfl (hc) rfl | (apply LEff.callBG; (· rfl); (· rfl); (· exact hc); (· exact aB); (· rfl))); (· exact aR))
          | refine X.gst ?_ | refine X.gld ?_ | refine X.new ?_ | refine X.app ?_ | refine X.appS ?_ | refine X.stoW ?_ | refine X.stoB ?_ | refine X.stoR ?_ | refine X.gand ?_ | refine X.gor ?_
          | refine nd ?_
          | ((with_reducible apply drwK.mk); (· kernel_rfl); (· exact aF))
          | fail)
        exact .f1 (.inl rfl) rfl rfl
def orR : List Int → Int
  | [] => 0
  | x :: l => if x ≠ 0 then x else orR l
theorem or_T (l : List Int) (hl : l.length < 9223372036854775807) : Fun Try.prog 120 [.fv (slOf encI l)] (.fv (.int .i64 (orR l))) := by
  refine Fun.body tbl_ok Try.func120 rfl (by kernel_rfl) rfl rfl rfl ?_
  repeat' (first
    | refine X.loc ?_
    | refine nx ?_
    | (refine WP.condBit rfl ?_ ?_)
    | (refine WP.cond rfl ?_ ?_ <;> intro hcond)
    | refine X.gst ?_ | refine X.gld ?_ | refine X.new ?_ | refine X.app ?_ | refine X.appS ?_ | refine X.stoW ?_ | refine X.stoB ?_ | refine X.stoR ?_ | refine X.gand ?_ | refine X.gor ?_
    | refine nd ?_
    | ((with_reducible apply drwK.mk); (· kernel_rfl); (· exact aF))
    | fail)
  refine WP.loop (ι := Nat) (fun k => ⟨[(0, .fv (slOf encI l)), (3, .fv (.int .i64 0)), (6, .fv (slOf encI l)), (7, .fv (.int .i64 l.length)), (8, .fv (.int .i64 k))], []⟩) (fun k => k ≤ l.length ∧ orR l = orR (l.drop k)) (fun k => l.length - k) 0 ⟨by omega, rfl⟩ ?_ ?_
  · skip
    refine St.le_of ?_ ?_ <;> (repeat' (first | exact trivial | refine ⟨⟨_, rfl, .refl _⟩, ?_⟩ | refine ⟨⟨_, rfl, .any _⟩, ?_⟩ | refine ⟨⟨_, rfl, .of_eq ?_⟩, ?_⟩ | refine ⟨⟨_, rfl, fun _ _ _ _ h => h⟩, ?_⟩ | fail))
  rintro k ⟨hk, he⟩
  try dsimp only
  by_cases hlt : k < l.length
  case neg =>
    rw [he, List.drop_eq_nil_of_le (by omega), orR]
    repeat' (first
      | refine X.loc ?_
      | refine nx ?_
      | refine X.cdT ?_
      | refine X.cdF ?_
      | (refine WP.condBit rfl ?_ ?_)
      | (refine WP.cond rfl ?_ ?_ <;> intro hcond)
      | refine X.gst ?_ | refine X.gld ?_ | refine X.new ?_ | refine X.app ?_ | refine X.appS ?_ | refine X.stoW ?_ | refine X.stoB ?_ | refine X.stoR ?_ | refine X.gand ?_ | refine X.gor ?_
      | refine nd ?_
      | ((with_reducible apply drwK.mk); (· kernel_rfl); (· exact aF))
      | fail)
    exact .f1 (.inl rfl) rfl rfl
  case pos =>
    obtain ⟨x, hx⟩ : ∃ x, l[k]? = some x := ⟨_, List.getElem?_eq_getElem hlt⟩
    have hdx : l.drop k = x :: l.drop (k + 1) := by rw [List.drop_eq_getElem_cons hlt, (List.getElem?_eq_some_iff.1 hx).2]
    rw [hdx, orR] at he
    by_cases h0 : x = 0
    · rw [if_neg (by omega)] at he
      subst h0
      repeat' (first
        | refine X.loc ?_
        | refine nx ?_
        | refine X.cdT ?_
        | refine X.cdF ?_
        | (refine WP.condBit rfl ?_ ?_)
        | (refine WP.cond rfl ?_ ?_ <;> intro hcond)
        | refine X.gst ?_ | refine X.gld ?_ | refine X.new ?_ | refine X.app ?_ | refine X.appS ?_ | refine X.stoW ?_ | refine X.stoB ?_ | refine X.stoR ?_ | refine X.gand ?_ | refine X.gor ?_
        | refine nd ?_
        | ((with_reducible apply drwK.mk); (· kernel_rfl); (· exact aF))
        | fail)
      refine ⟨k + 1, ⟨by omega, he⟩, by omega, ?_⟩
      refine St.le_of ?_ ?_ <;> (repeat' (first | exact trivial | refine ⟨⟨_, rfl, .refl _⟩, ?_⟩ | refine ⟨⟨_, rfl, .any _⟩, ?_⟩ | refine ⟨⟨_, rfl, .of_eq ?_⟩, ?_⟩ | refine ⟨⟨_, rfl, fun _ _ _ _ h => h⟩, ?_⟩ | fail))
    · rw [if_pos h0] at he
      rw [he]
      repeat' (first
        | refine X.loc ?_
        | refine nx ?_
        | refine X.cdT ?_
        | refine X.cdF ?_
        | (refine WP.condBit rfl ?_ ?_)
        | (refine WP.cond rfl ?_ ?_ <;> intro hcond)
        | refine X.gst ?_ | refine X.gld ?_ | refine X.new ?_ | refine X.app ?_ | refine X.appS ?_ | refine X.stoW ?_ | refine X.stoB ?_ | refine X.stoR ?_ | refine X.gand ?_ | refine X.gor ?_
        | refine nd ?_
        | ((with_reducible apply drwK.mk); (· kernel_rfl); (· exact aF))
        | fail)
      exact .f1 (.inl rfl) rfl rfl
/-- The numbers of a flow have room. -/
def Fl.Fit (f : Fl) : Prop := (2 + 3 * f.ms.length + 3 * f.ds.length) * 8 ≤ 140737488355328
theorem numsOf_len (f : Fl) : (numsOf f).length = 2 + 3 * f.ms.length + 3 * f.ds.length := by
  unfold numsOf
  rw [List.length_append, List.length_append, flat_len (s := 3) (fun _ => rfl), flat_len (s := 3) (fun _ => rfl)]
  rfl
set_option maxHeartbeats 1000000 in
theorem numbersO_T (f : Fl) (hf : f.Fit) : FunO Try.prog 123 [.agg ((encFl f).map .fv)] [] (.osl 7) [(7, .row 3 1 (numsOf f).length (((numsOf f).flatMap encI).map .fv))] := by
  unfold Fl.Fit at hf
  refine FunO.bodyL tbl_ok Try.func123 rfl (by kernel_rfl) rfl rfl rfl ?_
  repeat' (first
    | refine X.loc ?_
    | refine nx ?_
    | (refine WP.condBit rfl ?_ ?_)
    | (refine WP.cond rfl ?_ ?_ <;> intro hcond)
    | refine X.gst ?_ | refine X.gld ?_ | refine X.new ?_ | refine X.app ?_ | refine X.appS ?_ | refine X.stoW ?_ | refine X.stoB ?_ | refine X.stoR ?_ | refine X.gand ?_ | refine X.gor ?_
    | refine nd ?_
    | ((with_reducible apply drwK.mk); (· kernel_rfl); (· exact aF))
    | fail)
  refine WP.loop (ι := Nat) (fun k => ⟨[(1, .optr 1 0), (3, .osl 900), (16, .fv (slOf encMx f.ms)), (17, .fv (.int .i64 f.ms.length)), (18, .fv (.int .i64 k))], [(1, .box 36 ((encFl f).map .fv)), (900, .row 3 1 (2 + 3 * k) ((([(f.ms.length : Int), (f.ds.length : Int)] ++ (f.ms.take k).flatMap mx3).flatMap encI).map .fv))]⟩) (fun k => k ≤ f.ms.length) (fun k => f.ms.length - k) 0 (by omega) ?_ ?_
  · skip
    refine St.to [(900, .id 14)] [] rfl rfl ?_ ?_ <;> (repeat' (first | exact tA | refine t1 ?_ | exact tB | refine t2 ?_ ?_ | refine t3 ?_ | refine t4 ?_ ?_ | refine .ofEq ?_ | refine OB.To.cut rfl rfl ?_ ?_ ?_ ?_ | refine OB.To.box rfl rfl ?_ | refine ⟨⟨_, rfl, ?_⟩, ?_⟩ | refine ⟨?_, ?_⟩ | fail))
  rintro k hk
  try dsimp only
  by_cases hlt : k < f.ms.length
  case pos =>
    obtain ⟨x, hx⟩ : ∃ x, f.ms[k]? = some x := ⟨_, List.getElem?_eq_getElem hlt⟩
    have hs : [(f.ms.length : Int), (f.ds.length : Int)] ++ (f.ms.take (k + 1)).flatMap mx3 = ([(f.ms.length : Int), (f.ds.length : Int)] ++ (f.ms.take k).flatMap mx3) ++ [x.field, x.mask, x.value] := by
      rw [List.take_add_one, hx]
      simp [mx3]
    generalize [(f.ms.length : Int), (f.ds.length : Int)] ++ (f.ms.take k).flatMap mx3 = L at *
    repeat' (first
      | refine X.loc ?_
      | refine nx ?_
      | refine X.cdT ?_
      | refine X.cdF ?_
      | (refine WP.condBit rfl ?_ ?_)
      | (refine WP.cond rfl ?_ ?_ <;> intro hcond)
      | refine X.gst ?_ | refine X.gld ?_ | refine X.new ?_ | refine X.app ?_ | refine X.appS ?_ | refine X.stoW ?_ | refine X.stoB ?_ | refine X.stoR ?_ | refine X.gand ?_ | refine X.gor ?_
      | refine nd ?_
      | ((with_reducible apply drwK.mk); (· kernel_rfl); (· exact aF))
      | fail)
    refine ⟨k + 1, by omega, by omega, ?_⟩
    try dsimp only
    rw [hs]
    refine St.to [(900, .id 30)] [] rfl rfl ?_ ?_ <;> (repeat' (first | exact tA | refine t1 ?_ | exact tB | refine t2 ?_ ?_ | refine t3 ?_ | refine t4 ?_ ?_ | refine .ofEq ?_ | refine OB.To.cut rfl rfl ?_ ?_ ?_ ?_ | refine OB.To.box rfl rfl ?_ | refine ⟨⟨_, rfl, ?_⟩, ?_⟩ | refine ⟨?_, ?_⟩ | fail))
    all_goals first | omega | (simp; done) | (simp; omega) | (simp only [List.flatMap_append, List.map_append]; rfl)
  case neg =>
    obtain rfl : k = f.ms.length := by omega
    rw [List.take_length]
    repeat' (first
      | refine X.loc ?_
      | refine nx ?_
      | refine X.cdT ?_
      | refine X.cdF ?_
      | (refine WP.condBit rfl ?_ ?_)
      | (refine WP.cond rfl ?_ ?_ <;> intro hcond)
      | refine X.gst ?_ | refine X.gld ?_ | refine X.new ?_ | refine X.app ?_ | refine X.appS ?_ | refine X.stoW ?_ | refine X.stoB ?_ | refine X.stoR ?_ | refine X.gand ?_ | refine X.gor ?_
      | refine nd ?_
      | ((with_reducible apply drwK.mk); (· kernel_rfl); (· exact aF))
      | fail)
    refine WP.loop (ι := Nat) (fun k => ⟨[(1, .optr 1 0), (3, .osl 900), (33, .fv (slOf encDx f.ds)), (34, .fv (.int .i64 f.ds.length)), (35, .fv (.int .i64 k))], [(1, .box 36 ((encFl f).map .fv)), (900, .row 3 1 (2 + 3 * f.ms.length + 3 * k) ((([(f.ms.length : Int), (f.ds.length : Int)] ++ f.ms.flatMap mx3 ++ (f.ds.take k).flatMap dx3).flatMap encI).map .fv))]⟩) (fun k => k ≤ f.ds.length) (fun k => f.ds.length - k) 0 (by omega) ?_ ?_
    · rw [List.take_zero, List.flatMap_nil, List.append_nil]
      refine St.to [(900, .id 900)] [] rfl rfl ?_ ?_ <;> (repeat' (first | exact tA | refine t1 ?_ | exact tB | refine t2 ?_ ?_ | refine t3 ?_ | refine t4 ?_ ?_ | refine .ofEq ?_ | refine OB.To.cut rfl rfl ?_ ?_ ?_ ?_ | refine OB.To.box rfl rfl ?_ | refine ⟨⟨_, rfl, ?_⟩, ?_⟩ | refine ⟨?_, ?_⟩ | fail))
      all_goals omega
    rintro k hk
    try dsimp only
    by_cases hlt : k < f.ds.length
    case pos =>
      obtain ⟨x, hx⟩ : ∃ x, f.ds[k]? = some x := ⟨_, List.getElem?_eq_getElem hlt⟩
      have hs : [(f.ms.length : Int), (f.ds.length : Int)] ++ f.ms.flatMap mx3 ++ (f.ds.take (k + 1)).flatMap dx3 = ([(f.ms.length : Int), (f.ds.length : Int)] ++ f.ms.flatMap mx3 ++ (f.ds.take k).flatMap dx3) ++ [x.kind, x.a, x.n] := by
        rw [List.take_add_one, hx]
        simp [dx3]
      generalize [(f.ms.length : Int), (f.ds.length : Int)] ++ f.ms.flatMap mx3 ++ (f.ds.take k).flatMap dx3 = L at *
      repeat' (first
        | refine X.loc ?_
        | refine nx ?_
        | refine X.cdT ?_
        | refine X.cdF ?_
        | (refine WP.condBit rfl ?_ ?_)
        | (refine WP.cond rfl ?_ ?_ <;> intro hcond)
        | refine X.gst ?_ | refine X.gld ?_ | refine X.new ?_ | refine X.app ?_ | refine X.appS ?_ | refine X.stoW ?_ | refine X.stoB ?_ | refine X.stoR ?_ | refine X.gand ?_ | refine X.gor ?_
        | refine nd ?_
        | ((with_reducible apply drwK.mk); (· kernel_rfl); (· exact aF))
        | fail)
      refine ⟨k + 1, by omega, by omega, ?_⟩
      try dsimp only
      rw [hs]
      refine St.to [(900, .id 47)] [] rfl rfl ?_ ?_ <;> (repeat' (first | exact tA | refine t1 ?_ | exact tB | refine t2 ?_ ?_ | refine t3 ?_ | refine t4 ?_ ?_ | refine .ofEq ?_ | refine OB.To.cut rfl rfl ?_ ?_ ?_ ?_ | refine OB.To.box rfl rfl ?_ | refine ⟨⟨_, rfl, ?_⟩, ?_⟩ | refine ⟨?_, ?_⟩ | fail))
      all_goals first | omega | (simp; done) | (simp; omega) | (simp only [List.flatMap_append, List.map_append]; rfl)
    case neg =>
      obtain rfl : k = f.ds.length := by omega
      rw [List.take_length]
      have hn : [(f.ms.length : Int), (f.ds.length : Int)] ++ f.ms.flatMap mx3 ++ f.ds.flatMap dx3 = numsOf f := rfl
      have hlen := numsOf_len f
      rw [hn]
      generalize numsOf f = L at *
      repeat' (first
        | refine X.loc ?_
        | refine nx ?_
        | refine X.cdT ?_
        | refine X.cdF ?_
        | (refine WP.condBit rfl ?_ ?_)
        | (refine WP.cond rfl ?_ ?_ <;> intro hcond)
        | refine X.gst ?_ | refine X.gld ?_ | refine X.new ?_ | refine X.app ?_ | refine X.appS ?_ | refine X.stoW ?_ | refine X.stoB ?_ | refine X.stoR ?_ | refine X.gand ?_ | refine X.gor ?_
        | refine nd ?_
        | ((with_reducible apply drwK.mk); (· kernel_rfl); (· exact aF))
        | fail)
      rw [← hlen]
      refine .ofL (s' := ⟨[(2, .osl 7)], [(7, .row 3 1 L.length ((L.flatMap encI).map .fv))]⟩) (by first | exact .inl rfl | exact .inr rfl) ?_ rfl rfl (by repeat' (first | exact trivial | refine ⟨⟨_, rfl, fun _ _ _ _ h => h⟩, ?_⟩))
      refine St.to [(7, .id 900)] [] rfl rfl ?_ ?_ <;> (repeat' (first | exact tA | refine t1 ?_ | exact tB | refine t2 ?_ ?_ | refine t3 ?_ | refine t4 ?_ ?_ | refine .ofEq ?_ | refine OB.To.cut rfl rfl ?_ ?_ ?_ ?_ | refine OB.To.box rfl rfl ?_ | refine ⟨⟨_, rfl, ?_⟩, ?_⟩ | refine ⟨?_, ?_⟩ | fail))
theorem numbers_T (f : Fl) (hf : f.Fit) : Fun Try.prog 123 [.agg ((encFl f).map .fv)] (.fv (slOf encI (numsOf f))) :=
  (numbersO_T f hf).froz [7] (.frz rfl rfl rfl)
theorem orR_ord (x y : Fl) : orR [cmpI x.table y.table, cmpI y.prio x.prio, cmpL (numsOf x) (numsOf y)] = ordF x y := by
  unfold ordF keyOf
  rw [cmpL, cmpL, cmpI_swap, orR, orR, orR, orR]
  split
  · rfl
  · split
    · rfl
    · split
      · rfl
      · omega
set_option maxHeartbeats 1000000 in
theorem order_T (x y : Fl) (hx : x.Fit) (hy : y.Fit) : Fun Try.prog 76 [.agg ((encFl x).map .fv), .agg ((encFl y).map .fv)] (.fv (.int .i64 (ordF x y))) := by
  have c1 := compare_T x.table y.table
  have c2 := compare_T y.prio x.prio
  have n1 := numbers_T x hx
  have n2 := numbers_T y hy
  have c3 := compareL_T (numsOf x) (numsOf y) (by rw [numsOf_len]; unfold Fl.Fit at hx; omega) (by rw [numsOf_len]; unfold Fl.Fit at hy; omega)
  have c4 := or_T [cmpI x.table y.table, cmpI y.prio x.prio, cmpL (numsOf x) (numsOf y)] (by simp)
  rw [orR_ord] at c4
  generalize ordF x y = o at *
  generalize cmpL (numsOf x) (numsOf y) = o3 at *
  generalize cmpI x.table y.table = o1 at *
  generalize cmpI y.prio x.prio = o2 at *
  refine Fun.body tbl_ok Try.func76 rfl (by kernel_rfl) rfl rfl rfl ?_
  repeat' (first
    | (apply X.loE; (· exact aR); (· first | exact .eff (.bsliceFS rfl rfl rfl rfl rfl rfl) | exact .callL rfl rfl rfl (by first | exact c1 | exact c2 | exact n1 | exact n2 | exact c3 | exact c4) rfl | (apply LEff.callBL; (· rfl); (· rfl); (· exact c1); (· exact aB); (· rfl)) | (apply LEff.callBL; (· rfl); (· rfl); (· exact c2); (· exact aB); (· rfl)) | (apply LEff.callBL; (· rfl); (· rfl); (· exact n1); (· exact aB); (· rfl)) | (apply LEff.callBL; (· rfl); (· rfl); (· exact n2); (· exact aB); (· rfl)) | (apply LEff.callBL; (· rfl); (· rfl); (· exact c3); (· exact aB); (· rfl)) | (apply LEff.callBL; (· rfl); (· rfl); (· exact c4); (· exact aB); (· rfl))))
    | refine X.loc ?_
    | refine nx ?_
    | refine X.cdT ?_
    | refine X.cdF ?_
    | (refine WP.condBit rfl ?_ ?_)
    | (refine WP.cond rfl ?_ ?_ <;> intro hcond)
    | (apply X.gsE; (· exact aR); (· exact aV); (· exact aW); (· intro hc; first | exact .eff (.bsliceFS rfl rfl rfl rfl rfl rfl) | exact .callG rfl rfl rfl (by first | exact c1 | exact c2 | exact n1 | exact n2 | exact c3 | exact c4) rfl | (apply LEff.callBG; (· rfl); (· rfl); (· exact c1); (· exact aB); (· rfl)) | (apply LEff.callBG; (· rfl); (· rfl); (· exact c2); (· exact aB); (· rfl)) | (apply LEff.callBG; (· rfl); (· rfl); (· exact n1); (· exact aB); (· rfl)) | (apply LEff.callBG; (· rfl); (· rfl); (· exact n2); (· exact aB); (· rfl)) | (apply LEff.callBG; (· rfl); (· rfl); (· exact c3); (· exact aB); (· rfl)) | (apply LEff.callBG; (· rfl); (· rfl); (· exact c4); (· exact aB); (· rfl))); (· exact aR))
    | refine X.gst ?_ | refine X.gld ?_ | refine X.new ?_ | refine X.app ?_ | refine X.appS ?_ | refine X.stoW ?_ | refine X.stoB ?_ | refine X.stoR ?_ | refine X.gand ?_ | refine X.gor ?_
    | refine nd ?_
    | ((with_reducible apply drwK.mk); (· kernel_rfl); (· exact aF))
    | fail)
  exact .f1 (.inl rfl) rfl rfl
end Go.Proofs.Ytdbbmjdeeenlhaa
