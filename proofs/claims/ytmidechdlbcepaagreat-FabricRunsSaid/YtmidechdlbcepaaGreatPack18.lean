import Derived.Test.YtmidechdlbcepaaGreatPack17
set_option linter.unusedSimpArgs false
set_option linter.unusedVariables false
namespace Go.Proofs.YtmidechdlbcepaaGreat
open Go.RowKit
section
variable {T : Tbl} {ρ ρ' : Operand → AV} {H H' : Own} {d : Nat} {op : Op} {r : AV} {A : Own}
set_option linter.unusedSimpArgs false
theorem cellsL_congr : ∀ {l : List (Nat × Operand)}, (∀ x ∈ l.map (·.2), ρ' x = ρ x) → cellsL ρ' l = cellsL ρ l
  | [], _ => rfl
  | (i, x) :: l, h => by simp only [cellsL]; rw [h x (by simp), cellsL_congr fun y hy => h y (by simp only [List.map_cons, List.mem_cons]; exact .inr hy)]
theorem Eff.congr (h : Eff T ρ H d op r A) (hc : ∀ x ∈ op.operands, ρ' x = ρ x) : Eff T ρ' H d op r A := by
  cases h
  case move x => rw [← hc x (by simp [Op.operands])]; exact .move
  case assign x => rw [← hc x (by simp [Op.operands])]; exact .assign
  case mkFn f cap =>
    have : cap.toList.map ρ = cap.toList.map ρ' := List.map_congr_left fun x hx => (hc x (by simp [Op.operands]; simpa using hx)).symm
    rw [this]
    exact .mkFn
  case build t parts zs cs pl us h1 h2 h3 h4 => exact .build h1 h2 ((cellsL_congr fun x hx => hc x (by simpa [Op.operands] using hx)).trans h3) h4
  case bslice t n e s b parts zs cs us h1 h2 h3 h4 h5 => exact .bslice h1 h2 ((cellsL_congr fun x hx => hc x (by simpa [Op.operands] using hx)).trans h3) h4 h5
  case bsliceF t n e s b parts zs cs us fs h1 h2 h3 h4 h5 h6 => exact .bsliceF h1 h2 ((cellsL_congr fun x hx => hc x (by simpa [Op.operands] using hx)).trans h3) h4 h5 h6
  case sliLH t x lo hi cs n e s b l h k k' h1 h2 h3 h4 h5 h6 h7 => exact .sliLH ((hc x (by simp [Op.operands])).trans h1) ((hc lo (by simp [Op.operands])).trans h2) ((hc hi (by simp [Op.operands])).trans h3) h4 h5 h6 h7
  case sliL t x lo cs n e s b l k h1 h2 h4 h5 h7 => exact .sliL ((hc x (by simp [Op.operands])).trans h1) ((hc lo (by simp [Op.operands])).trans h2) h4 h5 h7
  case sliH t x hi cs n e s b h k' h1 h3 h4 h6 h7 => exact .sliH ((hc x (by simp [Op.operands])).trans h1) ((hc hi (by simp [Op.operands])).trans h3) h4 h6 h7
  case strH t x hi s h k' h1 h2 h3 h4 => exact .strH ((hc x (by simp [Op.operands])).trans h1) ((hc hi (by simp [Op.operands])).trans h2) h3 h4
  case box t x cs h1 => exact .box (by rw [hc x (by simp [Op.operands])]; exact h1)
  case zeroS t x lo hi mx a e s b n k k' h1 h2 h3 h4 h5 h6 => exact .zeroS ((hc x (by simp [Op.operands])).trans h1) h2 (fun l hl => by subst hl; obtain ⟨k, hk⟩ := h3 l rfl; exact ⟨k, (hc l (by simp [Op.operands])).trans hk⟩) ((hc hi (by simp [Op.operands])).trans h4) ((hc mx (by simp [Op.operands])).trans h5) h6
  case oLH t x lo hi g q n e s b cs l h k k' h1 h0 h2 h3 h4 h5 h6 => exact .oLH ((hc x (by simp [Op.operands])).trans h1) h0 ((hc lo (by simp [Op.operands])).trans h2) ((hc hi (by simp [Op.operands])).trans h3) h4 h5 h6
  case oL t x lo g q n e s b cs l k h1 h0 h2 h4 h5 => exact .oL ((hc x (by simp [Op.operands])).trans h1) h0 ((hc lo (by simp [Op.operands])).trans h2) h4 h5
  case oH t x hi g q n e s b cs h k' h1 h0 h3 h4 h6 => exact .oH ((hc x (by simp [Op.operands])).trans h1) h0 ((hc hi (by simp [Op.operands])).trans h3) h4 h6
  case bLH t x lo hi g q N l0 n e s b cs l h k k' h1 h0 h2 h3 h4 h5 h6 => exact .bLH ((hc x (by simp [Op.operands])).trans h1) h0 ((hc lo (by simp [Op.operands])).trans h2) ((hc hi (by simp [Op.operands])).trans h3) h4 h5 h6
  all_goals (simp only [Op.operands, Call.operands, Array.mem_append, List.mem_toArray, List.mem_cons, List.not_mem_nil, or_false, forall_eq_or_imp, forall_eq, false_or] at hc)
  case or c x y b b' h1 h2 h3 => exact .or (hc.1.trans h1) (hc.2.1.trans h2) (hc.2.2.trans h3)
  case and c x y b b' h1 h2 h3 => exact .and (hc.1.trans h1) (hc.2.1.trans h2) (hc.2.2.trans h3)
  case bin h1 h2 h3 => exact .bin (hc.1.trans h1) (hc.2.trans h2) h3
  case quo h1 h2 h3 => exact .quo (hc.1.trans h1) (hc.2.trans h2) h3
  case rem h1 h2 h3 => exact .rem (hc.1.trans h1) (hc.2.trans h2) h3
  case shr h1 h2 h3 h4 => exact .shr (hc.1.trans h1) (hc.2.trans h2) h3 h4
  case shl h1 h2 h3 h4 => exact .shl (hc.1.trans h1) (hc.2.trans h2) h3 h4
  case strEq h1 h2 => exact .strEq (hc.1.trans h1) (hc.2.trans h2)
  case strNe h1 h2 => exact .strNe (hc.1.trans h1) (hc.2.trans h2)
  case bEq h1 h2 h3 => exact .bEq (hc.1.trans h1) (hc.2.trans h2) h3
  case bNe h1 h2 h3 => exact .bNe (hc.1.trans h1) (hc.2.trans h2) h3
  case not h1 => exact .not (hc.trans h1)
  case neg h1 => exact .neg (hc.trans h1)
  case conv h1 h2 h3 => exact .conv (hc.trans h1) h2 h3
  case loadO h1 h2 h3 => exact .loadO (hc.trans h1) h2 h3
  case loadF h1 h2 => exact .loadF (hc.trans h1) h2
  case fldO h1 h2 h3 => exact .fldO (hc.trans h1) h2 h3
  case fldF h1 h2 h3 => exact .fldF (hc.trans h1) h2 h3
  case idxF h1 h2 h3 h4 h5 h6 => exact .idxF (hc.1.trans h1) (hc.2.trans h2) h3 h4 h5 h6
  case idxO h1 h0 h2 h3 h4 h5 => exact .idxO (hc.1.trans h1) h0 (hc.2.trans h2) h3 h4 h5
  case idxPO h1 h2 h3 h4 h5 => exact .idxPO (hc.1.trans h1) (hc.2.trans h2) h3 h4 h5
  case idxPF h1 h2 h3 h4 h5 => exact .idxPF (hc.1.trans h1) (hc.2.trans h2) h3 h4 h5
  case lenF h1 h2 => exact .lenF (hc.trans h1) h2
  case lenN h1 h2 => exact .lenN (hc.trans h1) h2
  case lenO h1 h0 h2 => exact .lenO (hc.trans h1) h0 h2
  case lenS h1 h2 => exact .lenS (hc.trans h1) h2
  case idxB h1 h2 h3 h4 h5 => exact .idxB (hc.1.trans h1) (hc.2.trans h2) h3 h4 h5
  case lenB h1 h2 => exact .lenB (hc.trans h1) h2
  case idxV h1 h2 h3 h4 h5 h6 h7 h8 => exact .idxV (hc.1.trans h1) (hc.2.trans h2) h3 h4 h5 h6 h7 h8
  case isNilF h1 h3 h4 h5 => exact .isNilF (hc.1.trans h1) h3 h4 h5
  case isNilZ h1 h3 h4 => exact .isNilZ (hc.1.trans h1) h3 h4
  case isNilO h1 h0 h3 h4 => exact .isNilO (hc.1.trans h1) h0 h3 h4
  case mkS h1 h2 h3 h4 h5 h6 => exact .mkS (hc.1.trans h1) (hc.2.trans h2) h3 h4 h5 h6
  case max h1 h2 => exact .max (hc.1.trans h1) (hc.2.trans h2)
  case min h1 h2 => exact .min (hc.1.trans h1) (hc.2.trans h2)
  case extract h1 h2 => exact .extract (hc.trans h1) h2
  case nilO h1 => exact .nilO (hc.trans h1)
  case nilF h1 => exact .nilF (hc.trans h1)
  case alloc h1 => exact .alloc h1
  case eqA h1 h2 h3 h4 h5 => exact .eqA (hc.1.trans h1) (hc.2.trans h2) h3 h4 h5
  case neA h1 h2 h3 h4 h5 => exact .neA (hc.1.trans h1) (hc.2.trans h2) h3 h4 h5
  case b2s h1 h2 h3 h4 => exact .b2s (hc.trans h1) h2 h3 h4
  case b2sN h1 h2 h3 h4 => exact .b2sN (hc.trans h1) h2 h3 h4

theorem Eff.own (h : Eff T ρ H d op r A) (ho : ∀ g, (∃ x ∈ op.operands, (ρ x).refs g = true) → lk H' g = lk H g) : Eff T ρ H' d op r A := by
  cases h
  case loadO t x g off ob h1 h2 h3 => exact .loadO h1 ((ho g ⟨x, by simp [Op.operands], by rw [h1]; simp [AV.refs]⟩).trans h2) h3
  case idxO t x y g cs q n e s b k i h1 h0 h2 h3 h4 h5 => exact .idxO h1 ((ho g ⟨x, by simp [Op.operands], by rw [h1]; simp [AV.refs]⟩).trans h0) h2 h3 h4 h5
  case lenO x t g e s n cs q h1 h0 h2 => exact .lenO h1 ((ho g ⟨x, by simp [Op.operands, Call.operands], by rw [h1]; simp [AV.refs]⟩).trans h0) h2
  case zeroS t x lo hi mx a e s b n k k' h1 h2 h3 h4 h5 h6 =>
    refine .zeroS (n := n) h1 ?_ h3 h4 h5 h6
    cases a with
    | osl g =>
      simp only [rowLen] at h2 ⊢
      rw [ho g ⟨x, by simp [Op.operands], by rw [h1]; simp [AV.refs]⟩]
      exact h2
    | fv f => cases f <;> exact h2
    | _ => exact h2
  case oLH t x lo hi g q n e s b cs l h k k' h1 h0 h2 h3 h4 h5 h6 => exact .oLH h1 ((ho g ⟨x, by simp [Op.operands], by rw [h1]; simp [AV.refs]⟩).trans h0) h2 h3 h4 h5 h6
  case oL t x lo g q n e s b cs l k h1 h0 h2 h4 h5 => exact .oL h1 ((ho g ⟨x, by simp [Op.operands], by rw [h1]; simp [AV.refs]⟩).trans h0) h2 h4 h5
  case oH t x hi g q n e s b cs h k' h1 h0 h3 h4 h6 => exact .oH h1 ((ho g ⟨x, by simp [Op.operands], by rw [h1]; simp [AV.refs]⟩).trans h0) h3 h4 h6
  case bLH t x lo hi g q N l0 n e s b cs l h k k' h1 h0 h2 h3 h4 h5 h6 => exact .bLH h1 ((ho g ⟨x, by simp [Op.operands], by rw [h1]; simp [AV.refs]⟩).trans h0) h2 h3 h4 h5 h6
  case idxB h1 h2 h3 h4 h5 => exact .idxB h1 h2 h3 h4 h5
  case lenB h1 h2 => exact .lenB h1 h2
  case idxV h1 h2 h3 h4 h5 h6 h7 h8 => exact .idxV h1 h2 h3 h4 h5 h6 h7 h8
  case isNilF h1 h3 h4 h5 => exact .isNilF h1 h3 h4 h5
  case isNilO t u x g q s n cs h1 h0 h3 h4 => exact .isNilO h1 ((ho g ⟨x, by simp [Op.operands], by rw [h1]; simp [AV.refs]⟩).trans h0) h3 h4
  case mkS h1 h2 h3 h4 h5 h6 => exact .mkS h1 h2 h3 h4 h5 h6
  case isNilZ t u x a h1 h3 h4 =>
    refine .isNilZ h1 ?_ h4
    cases a with
    | osl g =>
      simp only [rowLen] at h3 ⊢
      rw [ho g ⟨x, by simp [Op.operands], by rw [h1]; simp [AV.refs]⟩]
      exact h3
    | fv f => cases f <;> exact h3
    | _ => exact h3
  case box h1 => exact .box h1
  case or h1 h2 h3 => exact .or h1 h2 h3
  case and h1 h2 h3 => exact .and h1 h2 h3
  case bin h1 h2 h3 => exact .bin h1 h2 h3
  case quo h1 h2 h3 => exact .quo h1 h2 h3
  case rem h1 h2 h3 => exact .rem h1 h2 h3
  case shr h1 h2 h3 h4 => exact .shr h1 h2 h3 h4
  case shl h1 h2 h3 h4 => exact .shl h1 h2 h3 h4
  case strEq h1 h2 => exact .strEq h1 h2
  case strNe h1 h2 => exact .strNe h1 h2
  case bEq h1 h2 h3 => exact .bEq h1 h2 h3
  case bNe h1 h2 h3 => exact .bNe h1 h2 h3
  case not h1 => exact .not h1
  case neg h1 => exact .neg h1
  case conv h1 h2 h3 => exact .conv h1 h2 h3
  case loadF h1 h2 => exact .loadF h1 h2
  case fldO h1 h2 h3 => exact .fldO h1 h2 h3
  case fldF h1 h2 h3 => exact .fldF h1 h2 h3
  case idxF h1 h2 h3 h4 h5 h6 => exact .idxF h1 h2 h3 h4 h5 h6
  case idxPO h1 h2 h3 h4 h5 => exact .idxPO h1 h2 h3 h4 h5
  case idxPF h1 h2 h3 h4 h5 => exact .idxPF h1 h2 h3 h4 h5
  case lenF h1 h2 => exact .lenF h1 h2
  case lenN h1 h2 => exact .lenN h1 h2
  case lenS h1 h2 => exact .lenS h1 h2
  case max h1 h2 => exact .max h1 h2
  case min h1 h2 => exact .min h1 h2
  case extract h1 h2 => exact .extract h1 h2
  case nilO h1 => exact .nilO h1
  case nilF h1 => exact .nilF h1
  case alloc h1 => exact .alloc h1
  case build h1 h2 h3 h4 => exact .build h1 h2 h3 h4
  case bslice h1 h2 h3 h4 h5 => exact .bslice h1 h2 h3 h4 h5
  case bsliceF h1 h2 h3 h4 h5 h6 => exact .bsliceF h1 h2 h3 h4 h5 h6
  case sliLH h1 h2 h3 h4 h5 h6 h7 => exact .sliLH h1 h2 h3 h4 h5 h6 h7
  case sliL h1 h2 h4 h5 h7 => exact .sliL h1 h2 h4 h5 h7
  case sliH h1 h3 h4 h6 h7 => exact .sliH h1 h3 h4 h6 h7
  case strH h1 h2 h3 h4 => exact .strH h1 h2 h3 h4
  case eqA h1 h2 h3 h4 h5 => exact .eqA h1 h2 h3 h4 h5
  case neA h1 h2 h3 h4 h5 => exact .neA h1 h2 h3 h4 h5
  case b2s h1 h2 h3 h4 => exact .b2s h1 h2 h3 h4
  case b2sN h1 h2 h3 h4 => exact .b2sN h1 h2 h3 h4
  case move => exact .move
  case assign => exact .assign
  case mkFn => exact .mkFn

theorem refsL_get {g : Nat} : ∀ {as : List AV} {i : Nat} {a : AV}, AV.refsL g as = false → as[i]? = some a → a.refs g = false
  | [], _, _, _, h => by simp at h
  | b :: as, 0, a, h, e => by
    simp only [AV.refsL, Bool.or_eq_false_iff] at h
    obtain rfl := Option.some.inj e
    exact h.1
  | b :: as, i + 1, a, h, e => by
    simp only [AV.refsL, Bool.or_eq_false_iff] at h
    exact refsL_get h.2 (i := i) (by simpa using e)
theorem refsL_fv {g : Nat} : ∀ (cs : List FV), AV.refsL g (cs.map .fv) = false
  | [] => rfl
  | c :: cs => by simp [AV.refsL, AV.refs, refsL_fv cs]
theorem refsL_map {g : Nat} {ρ : Operand → AV} : ∀ (l : List Operand), (∀ x ∈ l, (ρ x).refs g = false) → AV.refsL g (l.map ρ) = false
  | [], _ => rfl
  | x :: l, h => by simp only [List.map_cons, AV.refsL, Bool.or_eq_false_iff]; exact ⟨h x (by simp), refsL_map l fun y hy => h y (by simp [hy])⟩
theorem readB_refs {g t : Nat} {cs : List AV} {r : AV} (h : readB T t cs = some r) (hc : AV.refsL g cs = false) : r.refs g = false := by
  unfold readB at h
  split at h
  · split at h
    · split at h
      · obtain rfl := Option.some.inj h
        simp only [AV.refsL, Bool.or_eq_false_iff] at hc
        exact hc.1
      · cases h
    · cases h
  · split at h
    · split at h
      · obtain rfl := Option.some.inj h
        simpa [AV.refs] using hc
      split at h
      · obtain rfl := Option.some.inj h
        simpa [AV.refs] using refsL_take _ hc
      · cases h
    · cases h
theorem Eff.refs {g : Nat} (h : Eff T ρ H d op r A) (ho : ∀ x ∈ op.operands, (ρ x).refs g = false) (hH : NoH g H) (hA : lk A g = none) (hz : ∀ t cs, lk T.zero t = some cs → AV.refsL g cs = false) :
    r.refs g = false ∧ NoH g A := by
  cases h
  case move x => exact ⟨ho x (by simp [Op.operands]), noH_nil g⟩
  case assign x => exact ⟨ho x (by simp [Op.operands]), noH_nil g⟩
  case loadO t x g' off ob h1 h2 h3 => exact ⟨readB_refs (readA_eq h3) (refsL_drop _ (hH _ _ h2)), noH_nil g⟩
  case loadF t x cs h1 h2 => exact ⟨readB_refs (readA_eq h2) (refsL_fv cs), noH_nil g⟩
  case fldO t j x g' off o fs h1 h2 h3 => exact ⟨by have := ho x (by simp [Op.operands]); rw [h1] at this; exact this, noH_nil g⟩
  case idxO t x y g' cs q n e s b k i h1 h0 h2 h3 h4 h5 => exact ⟨by have := ho x (by simp [Op.operands]); rw [h1] at this; exact this, noH_nil g⟩
  case zeroS t x lo hi mx a e s b n k k' h1 h2 h3 h4 h5 h6 =>
    have hd : d ≠ g := by rintro rfl; simp [lk_hit] at hA
    exact ⟨by simp only [AV.refs]; cases e : Nat.beq d g with
      | false => rfl
      | true => exact absurd (Nat.eq_of_beq_eq_true e) hd, noH_one (ob := .row _ _ 0 []) rfl⟩
  case oLH t x lo hi g' q n e s b cs l h k k' h1 h0 h2 h3 h4 h5 h6 => exact ⟨by have := ho x (by simp [Op.operands]); rw [h1] at this; exact this, noH_nil g⟩
  case oL t x lo g' q n e s b cs l k h1 h0 h2 h4 h5 => exact ⟨by have := ho x (by simp [Op.operands]); rw [h1] at this; exact this, noH_nil g⟩
  case oH t x hi g' q n e s b cs h k' h1 h0 h3 h4 h6 => exact ⟨by have := ho x (by simp [Op.operands]); rw [h1] at this; exact this, noH_nil g⟩
  case bLH t x lo hi g' q N l0 n e s b cs l h k k' h1 h0 h2 h3 h4 h5 h6 => exact ⟨by have := ho x (by simp [Op.operands]); rw [h1] at this; exact this, noH_nil g⟩
  case idxB t x y g' l0 n e s b k i h1 h2 h3 h4 h5 => exact ⟨by have := ho x (by simp [Op.operands]); rw [h1] at this; exact this, noH_nil g⟩
  case idxV t e n s x y cs k i h1 h2 h3 h4 h5 h6 h7 h8 => exact ⟨by have := ho x (by simp [Op.operands]); rw [h1] at this; exact refsL_get (by simpa [AV.refs] using this) h8, noH_nil g⟩
  case mkS t e s b n x y zs k k' h1 h2 h3 h4 h5 h6 =>
    have hd : d ≠ g := by rintro rfl; simp [lk_hit] at hA
    exact ⟨by simp only [AV.refs]; cases e : Nat.beq d g with
      | false => rfl
      | true => exact absurd (Nat.eq_of_beq_eq_true e) hd, noH_one (ob := .row e s n _) (refsL_flatten (hz e zs h4) n)⟩
  case idxPO t x y g' off n s k i h1 h2 h3 h4 h5 => exact ⟨by have := ho x (by simp [Op.operands]); rw [h1] at this; exact this, noH_nil g⟩
  case nilO x g' off h1 => exact ⟨by have := ho x (by simp [Op.operands]); rw [h1] at this; exact this, noH_nil g⟩
  case extract x i vs h1 h2 => exact ⟨by have := ho x (by simp [Op.operands]); rw [h1] at this; exact refsL_get this h2, noH_nil g⟩
  case mkFn f cap => exact ⟨by simp only [AV.refs]; exact refsL_map _ fun x hx => ho x (by simp [Op.operands]; simpa using hx), noH_nil g⟩
  case box t x cs h1 =>
    have hd : d ≠ g := by rintro rfl; simp [lk_hit] at hA
    exact ⟨by simp only [AV.refs]; cases e : Nat.beq d g with
      | false => rfl
      | true => exact absurd (Nat.eq_of_beq_eq_true e) hd, noH_one (cells1_refs h1 (ho x (by simp [Op.operands])))⟩
  case alloc t cs h1 =>
    have hd : d ≠ g := by rintro rfl; simp [lk_hit] at hA
    exact ⟨by simp only [AV.refs]; cases e : Nat.beq d g with
      | false => rfl
      | true => exact absurd (Nat.eq_of_beq_eq_true e) hd, noH_one (hz t cs h1)⟩
  case build t parts zs cs pl us h1 h2 h3 h4 =>
    exact ⟨by simp only [AV.refs]; exact fillA_refs (hz t zs h1) (cellsL_refs h3 fun x hx => ho x (by simpa [Op.operands] using hx)) h4, noH_nil g⟩
  case bslice t n e s b parts zs cs us h1 h2 h3 h4 h5 =>
    have hd : d ≠ g := by rintro rfl; simp [lk_hit] at hA
    exact ⟨by simp only [AV.refs]; cases e : Nat.beq d g with
      | false => rfl
      | true => exact absurd (Nat.eq_of_beq_eq_true e) hd, noH_one (ob := .row e s n cs) (fillA_refs (refsL_flatten (hz e zs h2) n) (cellsL_refs h3 fun x hx => ho x (by simpa [Op.operands] using hx)) h4)⟩
  all_goals exact ⟨rfl, noH_nil g⟩
end
end Go.Proofs.YtmidechdlbcepaaGreat