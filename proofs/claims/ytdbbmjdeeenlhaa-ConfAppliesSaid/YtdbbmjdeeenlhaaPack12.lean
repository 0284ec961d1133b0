/- A logic of memory: walks that stop where branches meet. -/
import Derived.Test.YtdbbmjdeeenlhaaPack09
import Derived.Test.YtdbbmjdeeenlhaaPack08
import Derived.Test.YtdbbmjdeeenlhaaPack11
namespace Go.Proofs.Ytdbbmjdeeenlhaa
open Go.RowKit

/-- A place where a walk stops. -/
structure Held (p : Prop) : Prop where
  out : p
theorem WP.hold {P : Program} {n : Nat} (k : Nat) {c d : Code} {Q : Exit → St → Prop} {st : St} (h : Held (WP P n (.cond (.tmp k) c d) Q st)) : WP P n (.cond (.tmp k) c d) Q st := h.out
end Go.Proofs.Ytdbbmjdeeenlhaa

/- An act that changes what is wanted: the two ways to say it come to the same. -/
namespace Go.Proofs.Ytdbbmjdeeenlhaa
open Go.RowKit

/-- A port behind an act, if it stays. -/
def keepP (a : De) (p : Po) : Option Po := if p.id = a.n then (if a.kind = 4 then none else some { p with ch := a.m }) else some p
/-- The document's answer, when there is nothing wrong. -/
def applyD (c : Cf) (a : De) : Cf :=
  if a.kind = 1 then { c with ss := c.ss ++ [a.sw] }
  else if a.kind = 2 then { c with ps := c.ps ++ [a.po] }
  else if a.kind = 3 then { c with acs := c.acs ++ [a.ac] }
  else if a.kind = 4 ∨ a.kind = 6 then { c with ps := c.ps.filterMap (keepP a) }
  else { c with acs := c.acs.eraseIdx a.n.toNat }
theorem poFault_new {c : Cf} {s : Po} (h : poFault c s = 0) : ∀ q ∈ c.ps, q.id ≠ s.id ∧ ¬ (q.sw = s.sw ∧ q.mac = s.mac) := by
  unfold poFault at h
  repeat' split at h
  any_goals (exfalso; omega)
  intro q hq
  have h3 : c.ps.any (fun q => q.id == s.id || (q.sw == s.sw && q.mac == s.mac)) = false := by
    rename_i h3 _ _
    simpa using h3
  have := List.any_eq_false.1 h3 q hq
  simp at this
  exact ⟨this.1, fun h => this.2 h.1 h.2⟩
theorem posMay_pw : ∀ {l : List Po} {c : Cf}, posMay c l = true → (∀ q ∈ c.ps, ∀ p ∈ l, q.id ≠ p.id ∧ ¬ (q.sw = p.sw ∧ q.mac = p.mac)) ∧ l.Pairwise fun q p => q.id ≠ p.id ∧ ¬ (q.sw = p.sw ∧ q.mac = p.mac)
  | [], _, _ => ⟨by simp, .nil⟩
  | s :: l, c, h => by
    simp only [posMay, Bool.and_eq_true, decide_eq_true_eq] at h
    have h1 := poFault_new h.1
    obtain ⟨h2, h3⟩ := posMay_pw h.2
    refine ⟨fun q hq p hp => ?_, ?_⟩
    · rcases List.mem_cons.1 hp with rfl | hp
      · exact h1 q hq
      · exact h2 q (by simp [hq]) p hp
    · exact List.pairwise_cons.2 ⟨fun p hp => h2 s (by simp) p hp, h3⟩
theorem cfMay_ids {c : Cf} (h : cfMay c = true) : c.ps.Pairwise fun q p => q.id ≠ p.id ∧ ¬ (q.sw = p.sw ∧ q.mac = p.mac) := by
  simp only [cfMay, Bool.and_eq_true] at h
  exact (posMay_pw h.1.2).2
theorem keep_none {a : De} : ∀ {l : List Po}, (∀ p ∈ l, p.id ≠ a.n) → l.filterMap (keepP a) = l
  | [], _ => rfl
  | x :: l, h => by
    have hx : keepP a x = some x := by rw [keepP, if_neg (h x (by simp))]
    rw [List.filterMap_cons, hx, keep_none fun p hp => h p (by simp [hp])]
theorem keep_at {a : De} : ∀ {l : List Po} {i : Nat}, (l.Pairwise fun q p => q.id ≠ p.id ∧ ¬ (q.sw = p.sw ∧ q.mac = p.mac)) → idxB (fun p => p.id == a.n) l = (i : Int) →
    l.filterMap (keepP a) = if a.kind = 4 then l.eraseIdx i else l.modify i fun p => { p with ch := a.m }
  | [], i, _, h => by simp [idxB] at h
  | x :: l, i, hp, h => by
    have hge := idxB_ge (fun p : Po => p.id == a.n) l
    obtain ⟨h1, h2⟩ := List.pairwise_cons.1 hp
    simp only [idxB] at h
    by_cases hx : x.id = a.n
    · simp only [hx, beq_self_eq_true, if_true] at h
      obtain rfl : i = 0 := by omega
      rw [List.filterMap_cons]
      have hn : l.filterMap (keepP a) = l := keep_none fun p hp => by have := (h1 p hp).1; rw [hx] at this; exact fun e => this e.symm
      rw [hn, keepP, if_pos hx]
      by_cases hk : a.kind = 4
      · simp [hk]
      · simp [hk]
    · simp only [beq_iff_eq, hx, if_false] at h
      split at h
      · omega
      · obtain ⟨j, rfl⟩ : ∃ j, i = j + 1 := ⟨i - 1, by omega⟩
        rw [List.filterMap_cons, keepP, if_neg hx, keep_at h2 (show idxB (fun p : Po => p.id == a.n) l = (j : Int) by omega)]
        by_cases hk : a.kind = 4
        · simp [hk]
        · simp [hk]
theorem applyD_eq {c : Cf} {a : De} (hm : cfMay c = true) (h : applyE c a = 0) : applyD c a = applyC c a := by
  unfold applyD applyC
  rw [applyE, if_neg (by rw [hm]; decide)] at h
  by_cases k1 : a.kind = 1
  · rw [if_pos k1, if_pos k1]
  by_cases k2 : a.kind = 2
  · rw [if_neg k1, if_pos k2, if_neg k1, if_pos k2]
  by_cases k3 : a.kind = 3
  · rw [if_neg k1, if_neg k2, if_pos k3, if_neg k1, if_neg k2, if_pos k3]
  rw [if_neg k1, if_neg k2, if_neg k3, if_neg k1, if_neg k2, if_neg k3]
  rw [if_neg k1, if_neg k2, if_neg k3] at h
  by_cases k46 : a.kind = 4 ∨ a.kind = 6
  · rw [if_pos k46]
    rw [if_pos k46] at h
    split at h
    · omega
    · rename_i h0
      obtain ⟨i, hi⟩ : ∃ i : Nat, idxB (fun p => p.id == a.n) c.ps = i := ⟨_, (Int.toNat_of_nonneg (Int.not_lt.1 h0)).symm⟩
      rw [keep_at (cfMay_ids hm) hi, hi, Int.toNat_natCast]
      rcases k46 with k | k
      · rw [if_pos k, if_pos k]
      · rw [if_neg (by omega), if_neg (by omega), if_pos k]
  · rw [if_neg k46]
    rw [if_neg k46] at h
    rw [if_neg (fun h => k46 (.inl h)), if_neg (fun h => k46 (.inr h))]
end Go.Proofs.Ytdbbmjdeeenlhaa

/- An act that changes what is wanted: the document's answer. -/
namespace Go.Proofs.Ytdbbmjdeeenlhaa
open Go.RowKit
set_option maxRecDepth 100000

theorem copyR_T (c : Cf) (hl : c.Fit) : FunO Try.prog 21 [.agg ((encCf c).map .fv)] [] (.agg [.osl 7, .osl 8, .osl 9]) [(7, .row 52 3 c.ss.length ((c.ss.flatMap encSw).map .fv)), (8, .row 54 5 c.ps.length ((c.ps.flatMap encPo).map .fv)), (9, .row 56 9 c.acs.length ((c.acs.flatMap encAc).map .fv))] := by
  have hl1 := hl.1
  have hl2 := hl.2.1
  have hl3 := hl.2.2
  refine FunO.bodyL tbl_ok Try.func21 rfl (by kernel_rfl) rfl rfl rfl ?_
  repeat' (first
    | (apply Ops.loc; (· rfl); (· rfl); (· rfl); (· first | exact .eff (.loadO rfl rfl rfl) | exact .eff (.fldO rfl rfl rfl) | exact .eff (.buildS rfl rfl rfl rfl)))
    | with_reducible refine WP.seq ?_
    | with_reducible apply WP.reg tbl_ok rfl
    | with_reducible refine Ops.nil ?_
    | with_reducible refine thenQ.nor ?_
    | with_reducible refine WP.ret ?_
    | (apply Ops.new; (· rfl); (· rfl); (· rfl); (· first | exact .eff (.box rfl) | exact .eff (.alloc rfl) | exact .eff (.bsliceS rfl rfl rfl rfl rfl) | exact .eff (.mkS rfl rfl rfl rfl (by omega) (by omega)) | exact .eff (.zeroS rfl rfl (by intro l hl; first | cases hl | exact ⟨_, by injection hl with hl; subst hl; rfl⟩) rfl rfl rfl)); (· first | rfl | (simp only [freshB, noRefH, OB.cells, refsL_fv, refsL_app]; rfl)))
    | (apply Ops.app; (· rfl); (· rfl); (· rfl); (· rfl); (· rfl); (· rfl); (· rfl); (· exact (by first | exact .nil | exact .own rfl (rmv_q (by first | exact (rfl : _ = []) | exact (rfl : _ = [_]) | exact (rfl : _ = [_, _]) | exact (rfl : _ = [_, _, _]) | exact (rfl : _ = [_, _, _, _]) | exact (rfl : _ = [_, _, _, _, _]) | exact (rfl : _ = [_, _, _, _, _, _]) | exact (rfl : _ = [_, _, _, _, _, _, _]) | exact (rfl : _ = [_, _, _, _, _, _, _, _]) | exact (rfl : _ = [_, _, _, _, _, _, _, _, _]) | exact (rfl : _ = [_, _, _, _, _, _, _, _, _, _]) | exact (rfl : _ = [_, _, _, _, _, _, _, _, _, _, _]) | exact (rfl : _ = [_, _, _, _, _, _, _, _, _, _, _, _]))))); (· exact .fz (by first | exact flatMap_len encSw_len _ | exact flatMap_len encPo_len _ | exact flatMap_len encAc_len _ | exact flatMap_len encMx_len _ | exact flatMap_len encDx_len _ | exact flatMap_len encFl_len _ | exact flatMap_len encSnt_len _ | exact flatMap_len encB_len _ | exact flatMap_len encRw_len _ | exact flatMap_len encAr_len _ | exact flatMap_len encGo_len _)); (· rfl); (· show (_ : Nat) ≤ 140737488355328; omega); (· first | rfl | (simp only [freshB, noRefH, OB.cells, refsL_fv, refsL_app]; rfl)))
    | (apply Ops.stoW; (· rfl); (· rfl); (· rfl); (· rfl); (· rfl); (· rfl); (· first | rfl | exact onesB_map _); (· rfl); (· exact rfl); (· exact (by repeat' (first | exact .here | apply Repl.there rfl))))
    | apply WP.drwL tbl_ok mixed_no rfl
    | ((with_reducible apply drwK.mk); (· kernel_rfl); (· first | rfl | (simp only [freeF, List.all_cons, List.all_nil, noRefH, OB.cells, refsL_fv, refsL_app]; rfl)))
    | fail)
  all_goals (try exact ([] : List Fp))
  refine .ofL (s' := ⟨[(2, .optr 2 0)], [(2, .box 50 [.osl 7, .osl 8, .osl 9]), (7, .row 52 3 c.ss.length ((c.ss.flatMap encSw).map .fv)), (8, .row 54 5 c.ps.length ((c.ps.flatMap encPo).map .fv)), (9, .row 56 9 c.acs.length ((c.acs.flatMap encAc).map .fv))]⟩) (by first | exact .inl rfl | exact .inr rfl) ?_ rfl rfl (by repeat' (first | exact trivial | refine ⟨⟨_, rfl, fun _ _ _ _ h => h⟩, ?_⟩))
  refine St.to [(7, .id 5), (8, .id 8), (9, .id 11)] [] rfl rfl ?_ ?_ <;> (repeat' (first | exact trivial | with_reducible rfl | exact .any | exact .ptr rfl | exact .sl rfl | exact .ptr0 rfl | exact .sl0 rfl | exact AV.To.nil rfl | exact .frz rfl rfl rfl | exact .frb rfl rfl (by omega) rfl | exact .frp rfl rfl rfl | refine AV.To.agg ?_ | refine AV.To.tup ?_ | exact .le (.refl _) rfl | exact .le AV.Le.nil rfl | refine AV.To.frzE rfl ?_ ?_ rfl | refine AV.To.frbE rfl ?_ ?_ (by omega) rfl | refine .le (.of_eq ?_) rfl | exact AV.ToL.nil | refine AV.ToL.cons ?_ ?_ | refine .ofEq ?_ | exact OB.To.nil rfl | refine OB.To.row rfl rfl ?_ ?_ | refine OB.To.cut rfl rfl ?_ ?_ ?_ ?_ | refine OB.To.box rfl rfl ?_ | refine ⟨⟨_, rfl, ?_⟩, ?_⟩ | refine ⟨?_, ?_⟩ | fail))
  all_goals simp
theorem portOf_T (c : Cf) (n : Int) (hl : c.Small) : Fun Try.prog 70 [.agg ((encCf c).map .fv), .fv (.int .i64 n)] (.tup [.agg ((encPo ((c.ps.find? fun p => p.id == n).getD po0)).map .fv), .fv (.bool (c.ps.any fun p => p.id == n))]) := by
  have hl2 := hl.2.1
  refine Fun.body tbl_ok Try.func70 rfl (by kernel_rfl) rfl rfl rfl ?_
  repeat' (first
    | (apply Ops.loc; (· rfl); (· rfl); (· rfl); (· first | exact .eff (.asg rfl)))
    | with_reducible refine WP.seq ?_
    | with_reducible apply WP.reg tbl_ok rfl
    | with_reducible refine Ops.nil ?_
    | with_reducible refine thenQ.nor ?_
    | with_reducible refine WP.block ?_
    | (apply Ops.new; (· rfl); (· rfl); (· rfl); (· first | exact .eff (.box rfl) | exact .eff (.alloc rfl) | exact .eff (.bsliceS rfl rfl rfl rfl rfl) | exact .eff (.mkS rfl rfl rfl rfl (by omega) (by omega)) | exact .eff (.zeroS rfl rfl (by intro l hl; first | cases hl | exact ⟨_, by injection hl with hl; subst hl; rfl⟩) rfl rfl rfl)); (· first | rfl | (simp only [freshB, noRefH, OB.cells, refsL_fv, refsL_app]; rfl)))
    | fail)
  all_goals (try exact ([] : List Fp))
  refine WP.loop (ι := Nat) (fun k => ⟨[(1, .fv (.int .i64 n)), (2, .optr 2 0), (4, .optr 4 0), (6, .fv (.int .i64 k))], [(2, .box 50 ((encCf c).map .fv)), (4, .box 54 ((encPo po0).map .fv))]⟩) (fun k => k ≤ c.ps.length ∧ ∀ p ∈ c.ps.take k, (p.id == n) = false) (fun k => c.ps.length - k) 0 ⟨by omega, by simp⟩ ?_ ?_
  · skip
    refine St.to [] [] rfl rfl ?_ ?_ <;> (repeat' (first | exact trivial | with_reducible rfl | exact .any | exact .ptr rfl | exact .sl rfl | exact .ptr0 rfl | exact .sl0 rfl | exact AV.To.nil rfl | exact .frz rfl rfl rfl | exact .frb rfl rfl (by omega) rfl | exact .frp rfl rfl rfl | refine AV.To.agg ?_ | refine AV.To.tup ?_ | exact .le (.refl _) rfl | exact .le AV.Le.nil rfl | refine AV.To.frzE rfl ?_ ?_ rfl | refine AV.To.frbE rfl ?_ ?_ (by omega) rfl | refine .le (.of_eq ?_) rfl | exact AV.ToL.nil | refine AV.ToL.cons ?_ ?_ | refine .ofEq ?_ | exact OB.To.nil rfl | refine OB.To.row rfl rfl ?_ ?_ | refine OB.To.cut rfl rfl ?_ ?_ ?_ ?_ | refine OB.To.box rfl rfl ?_ | refine ⟨⟨_, rfl, ?_⟩, ?_⟩ | refine ⟨?_, ?_⟩ | fail))
  rintro k ⟨hk, hd⟩
  try dsimp only
  by_cases hlt : k < c.ps.length
  case neg =>
    rw [List.take_of_length_le (by omega)] at hd
    have e1 : (c.ps.find? fun p => p.id == n) = none := List.find?_eq_none.2 fun p hp => by simpa using hd p hp
    have e2 : (c.ps.any fun p => p.id == n) = false := List.any_eq_false.2 fun p hp => by simpa using hd p hp
    rw [e1, e2]
    repeat' (first
      | (apply Ops.loc; (· rfl); (· rfl); (· rfl); (· first | exact .eff (.mv rfl) | exact .eff (.asg rfl) | exact .eff (.loadO rfl rfl rfl) | exact .eff (.fldO rfl rfl rfl) | exact .eff (.lenF rfl rfl) | exact .eff (.bin rfl rfl rfl) | exact .eff (.buildS rfl rfl rfl rfl)))
      | with_reducible refine WP.seq ?_
      | with_reducible apply WP.reg tbl_ok rfl
      | with_reducible refine Ops.nil ?_
      | with_reducible refine thenQ.nor ?_
      | with_reducible refine thenQ.ex ?_
      | with_reducible refine blockQ.hit rfl ?_
      | with_reducible refine WP.exit ?_
      | with_reducible refine WP.ret ?_
      | (refine WP.condF (c := _) (condD rfl (by first | exact decide_eq_false (by omega) | exact bne_eq_false_iff_eq.2 (by omega) | exact beq_eq_false_iff_ne.2 (by omega) | (simp only [Bool.or_eq_true, Bool.and_eq_true, Bool.or_eq_false_iff, Bool.and_eq_false_iff, decide_eq_true_eq, decide_eq_false_iff_not, bne_iff_ne, beq_iff_eq, bne_eq_false_iff_eq, beq_eq_false_iff_ne, Bool.not_eq_true', Bool.not_eq_false', ne_eq]; omega))) ?_)
      | (apply Ops.stoW; (· rfl); (· rfl); (· rfl); (· rfl); (· rfl); (· rfl); (· first | rfl | exact onesB_map _); (· rfl); (· exact rfl); (· exact (by repeat' (first | exact .here | apply Repl.there rfl))))
      | fail)
    all_goals (try exact ([] : List Fp))
    exact .fun (.inl rfl) rfl rfl
  case pos =>
    obtain ⟨x, hx⟩ : ∃ x, c.ps[k]? = some x := ⟨_, List.getElem?_eq_getElem hlt⟩
    by_cases hxn : x.id = n
    · have e1 : (c.ps.find? fun p => p.id == n) = some x := by
        rw [List.find?_eq_some_iff_append]
        refine ⟨by simpa using hxn, c.ps.take k, c.ps.drop (k + 1), ?_, fun p hp => by simpa using hd p hp⟩
        rw [← drop_at hx, List.take_append_drop]
      have e2 : (c.ps.any fun p => p.id == n) = true := List.any_eq_true.2 ⟨x, List.mem_of_getElem? hx, by simpa using hxn⟩
      rw [e1, e2]
      repeat' (first
        | (apply Ops.loc; (· rfl); (· rfl); (· rfl); (· first | (exact .eff (.idxS rfl rfl rfl encPo_len hx)) | exact .eff (.mv rfl) | exact .eff (.asg rfl) | exact .eff (.loadO rfl rfl rfl) | exact .eff (.loadF rfl rfl) | exact .eff (.fldO rfl rfl rfl) | exact .eff (.fldF rfl rfl rfl) | exact .eff (.lenF rfl rfl) | exact .eff (.bin rfl rfl rfl)))
        | with_reducible refine WP.seq ?_
        | with_reducible apply WP.reg tbl_ok rfl
        | with_reducible refine Ops.nil ?_
        | with_reducible refine thenQ.nor ?_
        | with_reducible refine thenQ.ret ?_
        | with_reducible refine blockQ.ret ?_
        | with_reducible refine WP.block ?_
        | with_reducible refine WP.skip ?_
        | with_reducible refine WP.ret ?_
        | (refine WP.condT (c := _) (condD rfl (by first | exact decide_eq_true (by omega) | exact bne_iff_ne.2 (by omega) | exact beq_iff_eq.2 (by omega) | (simp only [Bool.or_eq_true, Bool.and_eq_true, Bool.or_eq_false_iff, Bool.and_eq_false_iff, decide_eq_true_eq, decide_eq_false_iff_not, bne_iff_ne, beq_iff_eq, bne_eq_false_iff_eq, beq_eq_false_iff_ne, Bool.not_eq_true', Bool.not_eq_false', ne_eq]; omega))) ?_)
        | (apply Ops.stoW; (· rfl); (· rfl); (· rfl); (· rfl); (· rfl); (· rfl); (· first | rfl | exact onesB_map _); (· rfl); (· exact rfl); (· exact (by repeat' (first | exact .here | apply Repl.there rfl))))
        | fail)
      all_goals (try exact ([] : List Fp))
      exact .fun (.inl rfl) rfl rfl
    · skip
      repeat' (first
        | (apply Ops.loc; (· rfl); (· rfl); (· rfl); (· first | (exact .eff (.idxS rfl rfl rfl encPo_len hx)) | exact .eff (.mv rfl) | exact .eff (.asg rfl) | exact .eff (.loadO rfl rfl rfl) | exact .eff (.loadF rfl rfl) | exact .eff (.fldO rfl rfl rfl) | exact .eff (.fldF rfl rfl rfl) | (refine .eff (.add64 rfl rfl ?_ ?_) <;> omega) | exact .eff (.lenF rfl rfl) | exact .eff (.bin rfl rfl rfl)))
        | with_reducible refine WP.seq ?_
        | with_reducible apply WP.reg tbl_ok rfl
        | with_reducible refine Ops.nil ?_
        | with_reducible refine thenQ.nor ?_
        | with_reducible refine blockQ.nor ?_
        | with_reducible refine WP.block ?_
        | with_reducible refine WP.skip ?_
        | (refine WP.condT (c := _) (condD rfl (by first | exact decide_eq_true (by omega) | exact bne_iff_ne.2 (by omega) | exact beq_iff_eq.2 (by omega) | (simp only [Bool.or_eq_true, Bool.and_eq_true, Bool.or_eq_false_iff, Bool.and_eq_false_iff, decide_eq_true_eq, decide_eq_false_iff_not, bne_iff_ne, beq_iff_eq, bne_eq_false_iff_eq, beq_eq_false_iff_ne, Bool.not_eq_true', Bool.not_eq_false', ne_eq]; omega))) ?_)
        | (refine WP.condF (c := _) (condD rfl (by first | exact decide_eq_false (by omega) | exact bne_eq_false_iff_eq.2 (by omega) | exact beq_eq_false_iff_ne.2 (by omega) | (simp only [Bool.or_eq_true, Bool.and_eq_true, Bool.or_eq_false_iff, Bool.and_eq_false_iff, decide_eq_true_eq, decide_eq_false_iff_not, bne_iff_ne, beq_iff_eq, bne_eq_false_iff_eq, beq_eq_false_iff_ne, Bool.not_eq_true', Bool.not_eq_false', ne_eq]; omega))) ?_)
        | fail)
      all_goals (try exact ([] : List Fp))
      refine ⟨k + 1, ⟨by omega, ?_⟩, by omega, ?_⟩
      · rw [List.take_add_one, hx]
        intro p hp
        simp at hp
        rcases hp with hp | rfl
        · exact hd p hp
        · simpa using hxn
      · skip
        refine St.to [] [] rfl rfl ?_ ?_ <;> (repeat' (first | exact trivial | with_reducible rfl | exact .any | exact .ptr rfl | exact .sl rfl | exact .ptr0 rfl | exact .sl0 rfl | exact AV.To.nil rfl | exact .frz rfl rfl rfl | exact .frb rfl rfl (by omega) rfl | exact .frp rfl rfl rfl | refine AV.To.agg ?_ | refine AV.To.tup ?_ | exact .le (.refl _) rfl | exact .le AV.Le.nil rfl | refine AV.To.frzE rfl ?_ ?_ rfl | refine AV.To.frbE rfl ?_ ?_ (by omega) rfl | refine .le (.of_eq ?_) rfl | exact AV.ToL.nil | refine AV.ToL.cons ?_ ?_ | refine .ofEq ?_ | exact OB.To.nil rfl | refine OB.To.row rfl rfl ?_ ?_ | refine OB.To.cut rfl rfl ?_ ?_ ?_ ?_ | refine OB.To.box rfl rfl ?_ | refine ⟨⟨_, rfl, ?_⟩, ?_⟩ | refine ⟨?_, ?_⟩ | fail))
theorem out_step {α : Type} {l : List α} {k n : Nat} {x : α} (hx : l[k]? = some x) : (l.take (k + 1)).eraseIdx n = if n = k then (l.take k).eraseIdx n else (l.take k).eraseIdx n ++ [x] := by
  have hlt := (List.getElem?_eq_some_iff.1 hx).1
  have hlen : (l.take k).length = k := by rw [List.length_take]; omega
  rw [take_snoc hx]
  by_cases h : n = k
  · rw [if_pos h, h, List.eraseIdx_append_of_length_le (by omega), hlen, Nat.sub_self, List.eraseIdx_zero, List.tail_cons, List.append_nil, List.eraseIdx_of_length_le (by omega)]
  · rw [if_neg h]
    rcases Nat.lt_or_ge n k with h1 | h1
    · rw [List.eraseIdx_append_of_lt_length (by omega)]
    · rw [List.eraseIdx_of_length_le (by simp; omega), List.eraseIdx_of_length_le (by omega)]
end Go.Proofs.Ytdbbmjdeeenlhaa

/- The document's answer to an act: what is refused, and what is added. -/
namespace Go.Proofs.Ytdbbmjdeeenlhaa
open Go.RowKit
set_option maxRecDepth 100000

theorem appliedB_T (c : Cf) (a : De) (hl : c.Fit) (hm : cfMay c = false) : Fun Try.prog 23 [.agg ((encCf c).map .fv), .agg ((encDe a).map .fv)] (.tup [.agg ((encCf (applyR c a)).map .fv), .fv (.int .i64 (applyE c a))]) := by
  have hck := confMay_T c hl.small
  refine Fun.body tbl_ok Try.func23 rfl (by kernel_rfl) rfl rfl rfl ?_
  rw [hm] at hck
  repeat' (first
    | (apply Ops.loc; (· rfl); (· rfl); (· rfl); (· first | exact .eff (.asg rfl) | exact .eff (.loadO rfl rfl rfl) | exact .eff (.not rfl) | exact .eff (.buildS rfl rfl rfl rfl) | exact .callL rfl rfl rfl (by first | exact hck) rfl))
    | with_reducible refine WP.seq ?_
    | with_reducible apply WP.reg tbl_ok rfl
    | with_reducible refine Ops.nil ?_
    | with_reducible refine thenQ.nor ?_
    | with_reducible refine thenQ.ret ?_
    | with_reducible refine WP.ret ?_
    | refine WP.condT rfl ?_
    | (apply Ops.new; (· rfl); (· rfl); (· rfl); (· first | exact .eff (.box rfl) | exact .eff (.alloc rfl) | exact .eff (.bsliceS rfl rfl rfl rfl rfl) | exact .eff (.mkS rfl rfl rfl rfl (by omega) (by omega)) | exact .eff (.zeroS rfl rfl (by intro l hl; first | cases hl | exact ⟨_, by injection hl with hl; subst hl; rfl⟩) rfl rfl rfl)); (· first | rfl | (simp only [freshB, noRefH, OB.cells, refsL_fv, refsL_app]; rfl)))
    | (apply Ops.stoW; (· rfl); (· rfl); (· rfl); (· rfl); (· rfl); (· rfl); (· first | rfl | exact onesB_map _); (· rfl); (· exact rfl); (· exact (by repeat' (first | exact .here | apply Repl.there rfl))))
    | fail)
  all_goals (try exact ([] : List Fp))
  refine .le (s' := ⟨[(4, .optr 4 0), (5, .fv (.int .i64 8))], [(4, .box 50 ((encCf cf0).map .fv))]⟩) ?_ (.fun (.inl rfl) rfl ?_)
  · skip
    refine St.to [] [] rfl rfl ?_ ?_ <;> (repeat' (first | exact trivial | with_reducible rfl | exact .any | exact .ptr rfl | exact .sl rfl | exact .ptr0 rfl | exact .sl0 rfl | exact AV.To.nil rfl | exact .frz rfl rfl rfl | exact .frb rfl rfl (by omega) rfl | exact .frp rfl rfl rfl | refine AV.To.agg ?_ | refine AV.To.tup ?_ | exact .le (.refl _) rfl | exact .le AV.Le.nil rfl | refine AV.To.frzE rfl ?_ ?_ rfl | refine AV.To.frbE rfl ?_ ?_ (by omega) rfl | refine .le (.of_eq ?_) rfl | exact AV.ToL.nil | refine AV.ToL.cons ?_ ?_ | refine .ofEq ?_ | exact OB.To.nil rfl | refine OB.To.row rfl rfl ?_ ?_ | refine OB.To.cut rfl rfl ?_ ?_ ?_ ?_ | refine OB.To.box rfl rfl ?_ | refine ⟨⟨_, rfl, ?_⟩, ?_⟩ | refine ⟨?_, ?_⟩ | fail))
  · rw [applyE_bad hm, applyR_bad (by rw [applyE_bad hm]; decide)]
    rfl

set_option maxHeartbeats 4000000 in
theorem applied1_T (c : Cf) (a : De) (hl : c.Fit) (hm : cfMay c = true) (k : a.kind = 1) : Fun Try.prog 23 [.agg ((encCf c).map .fv), .agg ((encDe a).map .fv)] (.tup [.agg ((encCf (applyR c a)).map .fv), .fv (.int .i64 (applyE c a))]) := by
  have hck := confMay_T c hl.small
  refine Fun.body tbl_ok Try.func23 rfl (by kernel_rfl) rfl rfl rfl ?_
  rw [hm] at hck
  have hlen := cfMay_len hm
  have hcp := copyR_T c hl
  have b1 := hlen.ss
  have b2 := hlen.ps
  have b3 := hlen.acs
  have e0 : applyE c a = swFault c a.sw := by rw [applyE, if_neg (by rw [hm]; decide), if_pos k]
  have c1 := switchFault_T c a.sw hl.small
  generalize swFault c a.sw = e at *
  by_cases he : e = 0
  · subst he
    repeat' (first
      | (apply Ops.loc; (· rfl); (· rfl); (· rfl); (· first | exact .eff (.mv rfl) | exact .eff (.asg rfl) | exact .eff (.loadO rfl rfl rfl) | exact .eff (.fldO rfl rfl rfl) | exact .eff (.not rfl) | exact .eff (.bin rfl rfl rfl) | exact .callL rfl rfl rfl (by first | exact hck | exact c1) rfl))
      | with_reducible refine WP.seq ?_
      | with_reducible apply WP.reg tbl_ok rfl
      | with_reducible refine Ops.nil ?_
      | with_reducible refine thenQ.nor ?_
      | with_reducible refine blockQ.nor ?_
      | with_reducible refine WP.block ?_
      | with_reducible refine WP.skip ?_
      | with_reducible refine WP.ret ?_
      | refine WP.condF rfl ?_
      | (refine WP.condT (c := _) (condD rfl (by first | exact decide_eq_true (by omega) | exact bne_iff_ne.2 (by omega) | exact beq_iff_eq.2 (by omega) | (simp only [Bool.or_eq_true, Bool.and_eq_true, Bool.or_eq_false_iff, Bool.and_eq_false_iff, decide_eq_true_eq, decide_eq_false_iff_not, bne_iff_ne, beq_iff_eq, bne_eq_false_iff_eq, beq_eq_false_iff_ne, Bool.not_eq_true', Bool.not_eq_false', ne_eq]; omega))) ?_)
      | (apply Ops.new; (· rfl); (· rfl); (· rfl); (· first | exact .eff (.box rfl) | exact .eff (.alloc rfl) | exact .eff (.bsliceS rfl rfl rfl rfl rfl) | exact .eff (.mkS rfl rfl rfl rfl (by omega) (by omega)) | exact .eff (.zeroS rfl rfl (by intro l hl; first | cases hl | exact ⟨_, by injection hl with hl; subst hl; rfl⟩) rfl rfl rfl)); (· first | rfl | (simp only [freshB, noRefH, OB.cells, refsL_fv, refsL_app]; rfl)))
      | (apply Ops.app; (· rfl); (· rfl); (· rfl); (· rfl); (· rfl); (· rfl); (· rfl); (· exact (by first | exact .nil | exact .own rfl (rmv_q (by first | exact (rfl : _ = []) | exact (rfl : _ = [_]) | exact (rfl : _ = [_, _]) | exact (rfl : _ = [_, _, _]) | exact (rfl : _ = [_, _, _, _]) | exact (rfl : _ = [_, _, _, _, _]) | exact (rfl : _ = [_, _, _, _, _, _]) | exact (rfl : _ = [_, _, _, _, _, _, _]) | exact (rfl : _ = [_, _, _, _, _, _, _, _]) | exact (rfl : _ = [_, _, _, _, _, _, _, _, _]) | exact (rfl : _ = [_, _, _, _, _, _, _, _, _, _]) | exact (rfl : _ = [_, _, _, _, _, _, _, _, _, _, _]) | exact (rfl : _ = [_, _, _, _, _, _, _, _, _, _, _, _]))))); (· exact (by first | exact .nil | exact .own rfl (by first | rfl | exact onesB_map _) | exact .fz (by first | rfl | (simp; done) | exact (flatMap_len (s := 1) (fun _ => rfl) _).trans (by omega)))); (· rfl); (· show (_ : Nat) ≤ 140737488355328; omega); (· first | rfl | (simp only [freshB, noRefH, OB.cells, refsL_fv, refsL_app]; rfl)))
      | (apply Ops.stoW; (· rfl); (· rfl); (· rfl); (· rfl); (· rfl); (· rfl); (· first | rfl | exact onesB_map _); (· rfl); (· exact rfl); (· exact (by repeat' (first | exact .here | apply Repl.there rfl))))
      | (apply Ops.stoB; (· rfl); (· rfl); (· rfl); (· rfl); (· rfl); (· rfl); (· first | rfl | exact onesB_map _); (· rfl); (· exact rfl); (· exact (by repeat' (first | exact .here | apply Repl.there rfl))))
      | (apply Ops.callA false; (· rfl); (· rfl); (· rfl); (· rfl); (· rfl); (· rfl); (· exact hcp); (· skip; (repeat' (first | exact trivial | exact AV.ToL.nil | exact .ptr rfl | exact .sl rfl | exact AV.To.nil rfl | exact .le (.refl _) rfl | exact .frz rfl rfl rfl | exact .frp rfl rfl rfl | exact .le AV.Le.nil rfl | refine AV.To.agg ?_ | refine AV.To.fn ?_ | refine AV.ToL.cons ?_ ?_ | exact OB.To.nil rfl | refine OB.To.row rfl rfl rfl ?_ | refine OB.To.box rfl rfl ?_ | exact .ofEq rfl | refine ⟨?_, ?_⟩ | fail))); (· skip; (repeat' (first | exact trivial | exact AV.ToL.nil | exact .ptr rfl | exact .sl rfl | exact AV.To.nil rfl | exact .le (.refl _) rfl | exact .frz rfl rfl rfl | exact .frp rfl rfl rfl | exact .le AV.Le.nil rfl | refine AV.To.agg ?_ | refine AV.To.fn ?_ | refine AV.ToL.cons ?_ ?_ | exact OB.To.nil rfl | refine OB.To.row rfl rfl rfl ?_ | refine OB.To.box rfl rfl ?_ | exact .ofEq rfl | refine ⟨?_, ?_⟩ | fail))); (· rfl); (· rfl); (· skip; (repeat' (first | exact OwnRn.nil | apply OwnRn.cons rfl | apply OB.Rn.row | apply OB.Rn.box | exact AV.RnL.maps _ | exact AV.RnL.nil | exact AV.Rn.nil | exact AV.Rn.le rfl | exact AV.Rn.ptr rfl | exact AV.Rn.sl rfl | apply AV.RnL.cons | apply AV.Rn.agg | apply AV.Rn.tup | apply AV.Rn.fn | apply AV.RnL.app | apply AV.RnL.mapsS | fail))); (· skip; (repeat' (first | exact OwnRn.nil | apply OwnRn.cons rfl | apply OB.Rn.row | apply OB.Rn.box | exact AV.RnL.maps _ | exact AV.RnL.nil | exact AV.Rn.nil | exact AV.Rn.le rfl | exact AV.Rn.ptr rfl | exact AV.Rn.sl rfl | apply AV.RnL.cons | apply AV.Rn.agg | apply AV.Rn.tup | apply AV.Rn.fn | apply AV.RnL.app | apply AV.RnL.mapsS | fail))); (· rfl); (· rfl); (· exact (by first | exact (rfl : _ = []) | exact (rfl : _ = [_]) | exact (rfl : _ = [_, _]) | exact (rfl : _ = [_, _, _]) | exact (rfl : _ = [_, _, _, _]) | exact (rfl : _ = [_, _, _, _, _]) | exact (rfl : _ = [_, _, _, _, _, _]) | exact (rfl : _ = [_, _, _, _, _, _, _]) | exact (rfl : _ = [_, _, _, _, _, _, _, _]) | exact (rfl : _ = [_, _, _, _, _, _, _, _, _]) | exact (rfl : _ = [_, _, _, _, _, _, _, _, _, _]) | exact (rfl : _ = [_, _, _, _, _, _, _, _, _, _, _]) | exact (rfl : _ = [_, _, _, _, _, _, _, _, _, _, _, _]))); (· first | rfl | (simp only [freeNs, noRefH, OB.cells, refsL_fv, refsL_app]; rfl)); (· exact (by first | exact (rfl : _ = []) | exact (rfl : _ = [_]) | exact (rfl : _ = [_, _]) | exact (rfl : _ = [_, _, _]) | exact (rfl : _ = [_, _, _, _]) | exact (rfl : _ = [_, _, _, _, _]) | exact (rfl : _ = [_, _, _, _, _, _]) | exact (rfl : _ = [_, _, _, _, _, _, _]) | exact (rfl : _ = [_, _, _, _, _, _, _, _]) | exact (rfl : _ = [_, _, _, _, _, _, _, _, _]) | exact (rfl : _ = [_, _, _, _, _, _, _, _, _, _]) | exact (rfl : _ = [_, _, _, _, _, _, _, _, _, _, _]) | exact (rfl : _ = [_, _, _, _, _, _, _, _, _, _, _, _]))))
      | fail)
    all_goals (try exact ([] : List Fp))
    refine .le (s' := ⟨[(4, .optr 4 0), (5, .fv (.int .i64 0))], [(4, .box 50 ((encCf (applyD c a)).map .fv))]⟩) ?_ (.fun (.inl rfl) rfl ?_)
    · have e5 : applyD c a = { c with ss := c.ss ++ [a.sw] } := by rw [applyD, if_pos k]
      rw [e5]
      refine St.to [] [32, 318, 618] rfl rfl ?_ ?_ <;> (repeat' (first | exact trivial | with_reducible rfl | exact .any | exact .ptr rfl | exact .sl rfl | exact .ptr0 rfl | exact .sl0 rfl | exact AV.To.nil rfl | exact .frz rfl rfl rfl | exact .frb rfl rfl (by omega) rfl | exact .frp rfl rfl rfl | refine AV.To.agg ?_ | refine AV.To.tup ?_ | exact .le (.refl _) rfl | exact .le AV.Le.nil rfl | refine AV.To.frzE rfl ?_ ?_ rfl | refine AV.To.frbE rfl ?_ ?_ (by omega) rfl | refine .le (.of_eq ?_) rfl | exact AV.ToL.nil | refine AV.ToL.cons ?_ ?_ | refine .ofEq ?_ | exact OB.To.nil rfl | refine OB.To.row rfl rfl ?_ ?_ | refine OB.To.cut rfl rfl ?_ ?_ ?_ ?_ | refine OB.To.box rfl rfl ?_ | refine ⟨⟨_, rfl, ?_⟩, ?_⟩ | refine ⟨?_, ?_⟩ | fail))
      all_goals first | (simp; done) | (rw [List.length_eraseIdx, if_pos (by omega)]; done) | (simp only [List.flatMap_append, List.map_append]; rfl)
    · rw [e0, applyR_ok e0, ← applyD_eq hm e0]
      rfl
  · skip
    repeat' (first
      | (apply Ops.loc; (· rfl); (· rfl); (· rfl); (· first | exact .eff (.mv rfl) | exact .eff (.asg rfl) | exact .eff (.loadO rfl rfl rfl) | exact .eff (.fldO rfl rfl rfl) | exact .eff (.not rfl) | exact .eff (.bin rfl rfl rfl) | exact .eff (.buildS rfl rfl rfl rfl) | exact .callL rfl rfl rfl (by first | exact hck | exact c1) rfl))
      | with_reducible refine WP.seq ?_
      | with_reducible apply WP.reg tbl_ok rfl
      | with_reducible refine Ops.nil ?_
      | with_reducible refine thenQ.nor ?_
      | with_reducible refine thenQ.ret ?_
      | with_reducible refine blockQ.nor ?_
      | with_reducible refine WP.block ?_
      | with_reducible refine WP.skip ?_
      | with_reducible refine WP.ret ?_
      | refine WP.condF rfl ?_
      | (refine WP.condT (c := _) (condD rfl (by first | exact decide_eq_true (by omega) | exact bne_iff_ne.2 (by omega) | exact beq_iff_eq.2 (by omega) | (simp only [Bool.or_eq_true, Bool.and_eq_true, Bool.or_eq_false_iff, Bool.and_eq_false_iff, decide_eq_true_eq, decide_eq_false_iff_not, bne_iff_ne, beq_iff_eq, bne_eq_false_iff_eq, beq_eq_false_iff_ne, Bool.not_eq_true', Bool.not_eq_false', ne_eq]; omega))) ?_)
      | (apply Ops.new; (· rfl); (· rfl); (· rfl); (· first | exact .eff (.box rfl) | exact .eff (.alloc rfl) | exact .eff (.bsliceS rfl rfl rfl rfl rfl) | exact .eff (.mkS rfl rfl rfl rfl (by omega) (by omega)) | exact .eff (.zeroS rfl rfl (by intro l hl; first | cases hl | exact ⟨_, by injection hl with hl; subst hl; rfl⟩) rfl rfl rfl)); (· first | rfl | (simp only [freshB, noRefH, OB.cells, refsL_fv, refsL_app]; rfl)))
      | (apply Ops.app; (· rfl); (· rfl); (· rfl); (· rfl); (· rfl); (· rfl); (· rfl); (· exact (by first | exact .nil | exact .own rfl (rmv_q (by first | exact (rfl : _ = []) | exact (rfl : _ = [_]) | exact (rfl : _ = [_, _]) | exact (rfl : _ = [_, _, _]) | exact (rfl : _ = [_, _, _, _]) | exact (rfl : _ = [_, _, _, _, _]) | exact (rfl : _ = [_, _, _, _, _, _]) | exact (rfl : _ = [_, _, _, _, _, _, _]) | exact (rfl : _ = [_, _, _, _, _, _, _, _]) | exact (rfl : _ = [_, _, _, _, _, _, _, _, _]) | exact (rfl : _ = [_, _, _, _, _, _, _, _, _, _]) | exact (rfl : _ = [_, _, _, _, _, _, _, _, _, _, _]) | exact (rfl : _ = [_, _, _, _, _, _, _, _, _, _, _, _]))))); (· exact (by first | exact .nil | exact .own rfl (by first | rfl | exact onesB_map _) | exact .fz (by first | rfl | (simp; done) | exact (flatMap_len (s := 1) (fun _ => rfl) _).trans (by omega)))); (· rfl); (· show (_ : Nat) ≤ 140737488355328; omega); (· first | rfl | (simp only [freshB, noRefH, OB.cells, refsL_fv, refsL_app]; rfl)))
      | (apply Ops.stoW; (· rfl); (· rfl); (· rfl); (· rfl); (· rfl); (· rfl); (· first | rfl | exact onesB_map _); (· rfl); (· exact rfl); (· exact (by repeat' (first | exact .here | apply Repl.there rfl))))
      | (apply Ops.stoB; (· rfl); (· rfl); (· rfl); (· rfl); (· rfl); (· rfl); (· first | rfl | exact onesB_map _); (· rfl); (· exact rfl); (· exact (by repeat' (first | exact .here | apply Repl.there rfl))))
      | (apply Ops.callA false; (· rfl); (· rfl); (· rfl); (· rfl); (· rfl); (· rfl); (· exact hcp); (· skip; (repeat' (first | exact trivial | exact AV.ToL.nil | exact .ptr rfl | exact .sl rfl | exact AV.To.nil rfl | exact .le (.refl _) rfl | exact .frz rfl rfl rfl | exact .frp rfl rfl rfl | exact .le AV.Le.nil rfl | refine AV.To.agg ?_ | refine AV.To.fn ?_ | refine AV.ToL.cons ?_ ?_ | exact OB.To.nil rfl | refine OB.To.row rfl rfl rfl ?_ | refine OB.To.box rfl rfl ?_ | exact .ofEq rfl | refine ⟨?_, ?_⟩ | fail))); (· skip; (repeat' (first | exact trivial | exact AV.ToL.nil | exact .ptr rfl | exact .sl rfl | exact AV.To.nil rfl | exact .le (.refl _) rfl | exact .frz rfl rfl rfl | exact .frp rfl rfl rfl | exact .le AV.Le.nil rfl | refine AV.To.agg ?_ | refine AV.To.fn ?_ | refine AV.ToL.cons ?_ ?_ | exact OB.To.nil rfl | refine OB.To.row rfl rfl rfl ?_ | refine OB.To.box rfl rfl ?_ | exact .ofEq rfl | refine ⟨?_, ?_⟩ | fail))); (· rfl); (· rfl); (· skip; (repeat' (first | exact OwnRn.nil | apply OwnRn.cons rfl | apply OB.Rn.row | apply OB.Rn.box | exact AV.RnL.maps _ | exact AV.RnL.nil | exact AV.Rn.nil | exact AV.Rn.le rfl | exact AV.Rn.ptr rfl | exact AV.Rn.sl rfl | apply AV.RnL.cons | apply AV.Rn.agg | apply AV.Rn.tup | apply AV.Rn.fn | apply AV.RnL.app | apply AV.RnL.mapsS | fail))); (· skip; (repeat' (first | exact OwnRn.nil | apply OwnRn.cons rfl | apply OB.Rn.row | apply OB.Rn.box | exact AV.RnL.maps _ | exact AV.RnL.nil | exact AV.Rn.nil | exact AV.Rn.le rfl | exact AV.Rn.ptr rfl | exact AV.Rn.sl rfl | apply AV.RnL.cons | apply AV.Rn.agg | apply AV.Rn.tup | apply AV.Rn.fn | apply AV.RnL.app | apply AV.RnL.mapsS | fail))); (· rfl); (· rfl); (· exact (by first | exact (rfl : _ = []) | exact (rfl : _ = [_]) | exact (rfl : _ = [_, _]) | exact (rfl : _ = [_, _, _]) | exact (rfl : _ = [_, _, _, _]) | exact (rfl : _ = [_, _, _, _, _]) | exact (rfl : _ = [_, _, _, _, _, _]) | exact (rfl : _ = [_, _, _, _, _, _, _]) | exact (rfl : _ = [_, _, _, _, _, _, _, _]) | exact (rfl : _ = [_, _, _, _, _, _, _, _, _]) | exact (rfl : _ = [_, _, _, _, _, _, _, _, _, _]) | exact (rfl : _ = [_, _, _, _, _, _, _, _, _, _, _]) | exact (rfl : _ = [_, _, _, _, _, _, _, _, _, _, _, _]))); (· first | rfl | (simp only [freeNs, noRefH, OB.cells, refsL_fv, refsL_app]; rfl)); (· exact (by first | exact (rfl : _ = []) | exact (rfl : _ = [_]) | exact (rfl : _ = [_, _]) | exact (rfl : _ = [_, _, _]) | exact (rfl : _ = [_, _, _, _]) | exact (rfl : _ = [_, _, _, _, _]) | exact (rfl : _ = [_, _, _, _, _, _]) | exact (rfl : _ = [_, _, _, _, _, _, _]) | exact (rfl : _ = [_, _, _, _, _, _, _, _]) | exact (rfl : _ = [_, _, _, _, _, _, _, _, _]) | exact (rfl : _ = [_, _, _, _, _, _, _, _, _, _]) | exact (rfl : _ = [_, _, _, _, _, _, _, _, _, _, _]) | exact (rfl : _ = [_, _, _, _, _, _, _, _, _, _, _, _]))))
      | fail)
    all_goals (try exact ([] : List Fp))
    refine .le (s' := ⟨[(4, .optr 4 0), (5, .fv (.int .i64 e))], [(4, .box 50 ((encCf cf0).map .fv))]⟩) ?_ (.fun (.inl rfl) rfl ?_)
    · skip
      refine St.to [] [] rfl rfl ?_ ?_ <;> (repeat' (first | exact trivial | with_reducible rfl | exact .any | exact .ptr rfl | exact .sl rfl | exact .ptr0 rfl | exact .sl0 rfl | exact AV.To.nil rfl | exact .frz rfl rfl rfl | exact .frb rfl rfl (by omega) rfl | exact .frp rfl rfl rfl | refine AV.To.agg ?_ | refine AV.To.tup ?_ | exact .le (.refl _) rfl | exact .le AV.Le.nil rfl | refine AV.To.frzE rfl ?_ ?_ rfl | refine AV.To.frbE rfl ?_ ?_ (by omega) rfl | refine .le (.of_eq ?_) rfl | exact AV.ToL.nil | refine AV.ToL.cons ?_ ?_ | refine .ofEq ?_ | exact OB.To.nil rfl | refine OB.To.row rfl rfl ?_ ?_ | refine OB.To.cut rfl rfl ?_ ?_ ?_ ?_ | refine OB.To.box rfl rfl ?_ | refine ⟨⟨_, rfl, ?_⟩, ?_⟩ | refine ⟨?_, ?_⟩ | fail))
    · rw [applyR_bad (by rw [e0]; first | exact he | decide), e0]
      rfl

set_option maxHeartbeats 4000000 in
theorem applied2_T (c : Cf) (a : De) (hl : c.Fit) (hm : cfMay c = true) (k : a.kind = 2) : Fun Try.prog 23 [.agg ((encCf c).map .fv), .agg ((encDe a).map .fv)] (.tup [.agg ((encCf (applyR c a)).map .fv), .fv (.int .i64 (applyE c a))]) := by
  have hck := confMay_T c hl.small
  refine Fun.body tbl_ok Try.func23 rfl (by kernel_rfl) rfl rfl rfl ?_
  rw [hm] at hck
  have hlen := cfMay_len hm
  have hcp := copyR_T c hl
  have b1 := hlen.ss
  have b2 := hlen.ps
  have b3 := hlen.acs
  have e0 : applyE c a = poFault c a.po := by rw [applyE, if_neg (by rw [hm]; decide), if_neg (by rw [k]; decide), if_pos k]
  have c1 := portFault_T c a.po hl.small
  generalize poFault c a.po = e at *
  by_cases he : e = 0
  · subst he
    repeat' (first
      | (apply Ops.loc; (· rfl); (· rfl); (· rfl); (· first | exact .eff (.mv rfl) | exact .eff (.asg rfl) | exact .eff (.loadO rfl rfl rfl) | exact .eff (.fldO rfl rfl rfl) | exact .eff (.not rfl) | exact .eff (.bin rfl rfl rfl) | exact .callL rfl rfl rfl (by first | exact hck | exact c1) rfl))
      | with_reducible refine WP.seq ?_
      | with_reducible apply WP.reg tbl_ok rfl
      | with_reducible refine Ops.nil ?_
      | with_reducible refine thenQ.nor ?_
      | with_reducible refine blockQ.nor ?_
      | with_reducible refine WP.block ?_
      | with_reducible refine WP.skip ?_
      | with_reducible refine WP.ret ?_
      | refine WP.condF rfl ?_
      | (refine WP.condT (c := _) (condD rfl (by first | exact decide_eq_true (by omega) | exact bne_iff_ne.2 (by omega) | exact beq_iff_eq.2 (by omega) | (simp only [Bool.or_eq_true, Bool.and_eq_true, Bool.or_eq_false_iff, Bool.and_eq_false_iff, decide_eq_true_eq, decide_eq_false_iff_not, bne_iff_ne, beq_iff_eq, bne_eq_false_iff_eq, beq_eq_false_iff_ne, Bool.not_eq_true', Bool.not_eq_false', ne_eq]; omega))) ?_)
      | (refine WP.condF (c := _) (condD rfl (by first | exact decide_eq_false (by omega) | exact bne_eq_false_iff_eq.2 (by omega) | exact beq_eq_false_iff_ne.2 (by omega) | (simp only [Bool.or_eq_true, Bool.and_eq_true, Bool.or_eq_false_iff, Bool.and_eq_false_iff, decide_eq_true_eq, decide_eq_false_iff_not, bne_iff_ne, beq_iff_eq, bne_eq_false_iff_eq, beq_eq_false_iff_ne, Bool.not_eq_true', Bool.not_eq_false', ne_eq]; omega))) ?_)
      | (apply Ops.new; (· rfl); (· rfl); (· rfl); (· first | exact .eff (.box rfl) | exact .eff (.alloc rfl) | exact .eff (.bsliceS rfl rfl rfl rfl rfl) | exact .eff (.mkS rfl rfl rfl rfl (by omega) (by omega)) | exact .eff (.zeroS rfl rfl (by intro l hl; first | cases hl | exact ⟨_, by injection hl with hl; subst hl; rfl⟩) rfl rfl rfl)); (· first | rfl | (simp only [freshB, noRefH, OB.cells, refsL_fv, refsL_app]; rfl)))
      | (apply Ops.app; (· rfl); (· rfl); (· rfl); (· rfl); (· rfl); (· rfl); (· rfl); (· exact (by first | exact .nil | exact .own rfl (rmv_q (by first | exact (rfl : _ = []) | exact (rfl : _ = [_]) | exact (rfl : _ = [_, _]) | exact (rfl : _ = [_, _, _]) | exact (rfl : _ = [_, _, _, _]) | exact (rfl : _ = [_, _, _, _, _]) | exact (rfl : _ = [_, _, _, _, _, _]) | exact (rfl : _ = [_, _, _, _, _, _, _]) | exact (rfl : _ = [_, _, _, _, _, _, _, _]) | exact (rfl : _ = [_, _, _, _, _, _, _, _, _]) | exact (rfl : _ = [_, _, _, _, _, _, _, _, _, _]) | exact (rfl : _ = [_, _, _, _, _, _, _, _, _, _, _]) | exact (rfl : _ = [_, _, _, _, _, _, _, _, _, _, _, _]))))); (· exact (by first | exact .nil | exact .own rfl (by first | rfl | exact onesB_map _) | exact .fz (by first | rfl | (simp; done) | exact (flatMap_len (s := 1) (fun _ => rfl) _).trans (by omega)))); (· rfl); (· show (_ : Nat) ≤ 140737488355328; omega); (· first | rfl | (simp only [freshB, noRefH, OB.cells, refsL_fv, refsL_app]; rfl)))
      | (apply Ops.stoW; (· rfl); (· rfl); (· rfl); (· rfl); (· rfl); (· rfl); (· first | rfl | exact onesB_map _); (· rfl); (· exact rfl); (· exact (by repeat' (first | exact .here | apply Repl.there rfl))))
      | (apply Ops.stoB; (· rfl); (· rfl); (· rfl); (· rfl); (· rfl); (· rfl); (· first | rfl | exact onesB_map _); (· rfl); (· exact rfl); (· exact (by repeat' (first | exact .here | apply Repl.there rfl))))
      | (apply Ops.callA false; (· rfl); (· rfl); (· rfl); (· rfl); (· rfl); (· rfl); (· exact hcp); (· skip; (repeat' (first | exact trivial | exact AV.ToL.nil | exact .ptr rfl | exact .sl rfl | exact AV.To.nil rfl | exact .le (.refl _) rfl | exact .frz rfl rfl rfl | exact .frp rfl rfl rfl | exact .le AV.Le.nil rfl | refine AV.To.agg ?_ | refine AV.To.fn ?_ | refine AV.ToL.cons ?_ ?_ | exact OB.To.nil rfl | refine OB.To.row rfl rfl rfl ?_ | refine OB.To.box rfl rfl ?_ | exact .ofEq rfl | refine ⟨?_, ?_⟩ | fail))); (· skip; (repeat' (first | exact trivial | exact AV.ToL.nil | exact .ptr rfl | exact .sl rfl | exact AV.To.nil rfl | exact .le (.refl _) rfl | exact .frz rfl rfl rfl | exact .frp rfl rfl rfl | exact .le AV.Le.nil rfl | refine AV.To.agg ?_ | refine AV.To.fn ?_ | refine AV.ToL.cons ?_ ?_ | exact OB.To.nil rfl | refine OB.To.row rfl rfl rfl ?_ | refine OB.To.box rfl rfl ?_ | exact .ofEq rfl | refine ⟨?_, ?_⟩ | fail))); (· rfl); (· rfl); (· skip; (repeat' (first | exact OwnRn.nil | apply OwnRn.cons rfl | apply OB.Rn.row | apply OB.Rn.box | exact AV.RnL.maps _ | exact AV.RnL.nil | exact AV.Rn.nil | exact AV.Rn.le rfl | exact AV.Rn.ptr rfl | exact AV.Rn.sl rfl | apply AV.RnL.cons | apply AV.Rn.agg | apply AV.Rn.tup | apply AV.Rn.fn | apply AV.RnL.app | apply AV.RnL.mapsS | fail))); (· skip; (repeat' (first | exact OwnRn.nil | apply OwnRn.cons rfl | apply OB.Rn.row | apply OB.Rn.box | exact AV.RnL.maps _ | exact AV.RnL.nil | exact AV.Rn.nil | exact AV.Rn.le rfl | exact AV.Rn.ptr rfl | exact AV.Rn.sl rfl | apply AV.RnL.cons | apply AV.Rn.agg | apply AV.Rn.tup | apply AV.Rn.fn | apply AV.RnL.app | apply AV.RnL.mapsS | fail))); (· rfl); (· rfl); (· exact (by first | exact (rfl : _ = []) | exact (rfl : _ = [_]) | exact (rfl : _ = [_, _]) | exact (rfl : _ = [_, _, _]) | exact (rfl : _ = [_, _, _, _]) | exact (rfl : _ = [_, _, _, _, _]) | exact (rfl : _ = [_, _, _, _, _, _]) | exact (rfl : _ = [_, _, _, _, _, _, _]) | exact (rfl : _ = [_, _, _, _, _, _, _, _]) | exact (rfl : _ = [_, _, _, _, _, _, _, _, _]) | exact (rfl : _ = [_, _, _, _, _, _, _, _, _, _]) | exact (rfl : _ = [_, _, _, _, _, _, _, _, _, _, _]) | exact (rfl : _ = [_, _, _, _, _, _, _, _, _, _, _, _]))); (· first | rfl | (simp only [freeNs, noRefH, OB.cells, refsL_fv, refsL_app]; rfl)); (· exact (by first | exact (rfl : _ = []) | exact (rfl : _ = [_]) | exact (rfl : _ = [_, _]) | exact (rfl : _ = [_, _, _]) | exact (rfl : _ = [_, _, _, _]) | exact (rfl : _ = [_, _, _, _, _]) | exact (rfl : _ = [_, _, _, _, _, _]) | exact (rfl : _ = [_, _, _, _, _, _, _]) | exact (rfl : _ = [_, _, _, _, _, _, _, _]) | exact (rfl : _ = [_, _, _, _, _, _, _, _, _]) | exact (rfl : _ = [_, _, _, _, _, _, _, _, _, _]) | exact (rfl : _ = [_, _, _, _, _, _, _, _, _, _, _]) | exact (rfl : _ = [_, _, _, _, _, _, _, _, _, _, _, _]))))
      | fail)
    all_goals (try exact ([] : List Fp))
    refine .le (s' := ⟨[(4, .optr 4 0), (5, .fv (.int .i64 0))], [(4, .box 50 ((encCf (applyD c a)).map .fv))]⟩) ?_ (.fun (.inl rfl) rfl ?_)
    · have e5 : applyD c a = { c with ps := c.ps ++ [a.po] } := by rw [applyD, if_neg (by rw [k]; decide), if_pos k]
      rw [e5]
      refine St.to [] [18, 45, 618] rfl rfl ?_ ?_ <;> (repeat' (first | exact trivial | with_reducible rfl | exact .any | exact .ptr rfl | exact .sl rfl | exact .ptr0 rfl | exact .sl0 rfl | exact AV.To.nil rfl | exact .frz rfl rfl rfl | exact .frb rfl rfl (by omega) rfl | exact .frp rfl rfl rfl | refine AV.To.agg ?_ | refine AV.To.tup ?_ | exact .le (.refl _) rfl | exact .le AV.Le.nil rfl | refine AV.To.frzE rfl ?_ ?_ rfl | refine AV.To.frbE rfl ?_ ?_ (by omega) rfl | refine .le (.of_eq ?_) rfl | exact AV.ToL.nil | refine AV.ToL.cons ?_ ?_ | refine .ofEq ?_ | exact OB.To.nil rfl | refine OB.To.row rfl rfl ?_ ?_ | refine OB.To.cut rfl rfl ?_ ?_ ?_ ?_ | refine OB.To.box rfl rfl ?_ | refine ⟨⟨_, rfl, ?_⟩, ?_⟩ | refine ⟨?_, ?_⟩ | fail))
      all_goals first | (simp; done) | (rw [List.length_eraseIdx, if_pos (by omega)]; done) | (simp only [List.flatMap_append, List.map_append]; rfl)
    · rw [e0, applyR_ok e0, ← applyD_eq hm e0]
      rfl
  · skip
    repeat' (first
      | (apply Ops.loc; (· rfl); (· rfl); (· rfl); (· first | exact .eff (.mv rfl) | exact .eff (.asg rfl) | exact .eff (.loadO rfl rfl rfl) | exact .eff (.fldO rfl rfl rfl) | exact .eff (.not rfl) | exact .eff (.bin rfl rfl rfl) | exact .eff (.buildS rfl rfl rfl rfl) | exact .callL rfl rfl rfl (by first | exact hck | exact c1) rfl))
      | with_reducible refine WP.seq ?_
      | with_reducible apply WP.reg tbl_ok rfl
      | with_reducible refine Ops.nil ?_
      | with_reducible refine thenQ.nor ?_
      | with_reducible refine thenQ.ret ?_
      | with_reducible refine blockQ.nor ?_
      | with_reducible refine WP.block ?_
      | with_reducible refine WP.skip ?_
      | with_reducible refine WP.ret ?_
      | refine WP.condF rfl ?_
      | (refine WP.condT (c := _) (condD rfl (by first | exact decide_eq_true (by omega) | exact bne_iff_ne.2 (by omega) | exact beq_iff_eq.2 (by omega) | (simp only [Bool.or_eq_true, Bool.and_eq_true, Bool.or_eq_false_iff, Bool.and_eq_false_iff, decide_eq_true_eq, decide_eq_false_iff_not, bne_iff_ne, beq_iff_eq, bne_eq_false_iff_eq, beq_eq_false_iff_ne, Bool.not_eq_true', Bool.not_eq_false', ne_eq]; omega))) ?_)
      | (refine WP.condF (c := _) (condD rfl (by first | exact decide_eq_false (by omega) | exact bne_eq_false_iff_eq.2 (by omega) | exact beq_eq_false_iff_ne.2 (by omega) | (simp only [Bool.or_eq_true, Bool.and_eq_true, Bool.or_eq_false_iff, Bool.and_eq_false_iff, decide_eq_true_eq, decide_eq_false_iff_not, bne_iff_ne, beq_iff_eq, bne_eq_false_iff_eq, beq_eq_false_iff_ne, Bool.not_eq_true', Bool.not_eq_false', ne_eq]; omega))) ?_)
      | (apply Ops.new; (· rfl); (· rfl); (· rfl); (· first | exact .eff (.box rfl) | exact .eff (.alloc rfl) | exact .eff (.bsliceS rfl rfl rfl rfl rfl) | exact .eff (.mkS rfl rfl rfl rfl (by omega) (by omega)) | exact .eff (.zeroS rfl rfl (by intro l hl; first | cases hl | exact ⟨_, by injection hl with hl; subst hl; rfl⟩) rfl rfl rfl)); (· first | rfl | (simp only [freshB, noRefH, OB.cells, refsL_fv, refsL_app]; rfl)))
      | (apply Ops.app; (· rfl); (· rfl); (· rfl); (· rfl); (· rfl); (· rfl); (· rfl); (· exact (by first | exact .nil | exact .own rfl (rmv_q (by first | exact (rfl : _ = []) | exact (rfl : _ = [_]) | exact (rfl : _ = [_, _]) | exact (rfl : _ = [_, _, _]) | exact (rfl : _ = [_, _, _, _]) | exact (rfl : _ = [_, _, _, _, _]) | exact (rfl : _ = [_, _, _, _, _, _]) | exact (rfl : _ = [_, _, _, _, _, _, _]) | exact (rfl : _ = [_, _, _, _, _, _, _, _]) | exact (rfl : _ = [_, _, _, _, _, _, _, _, _]) | exact (rfl : _ = [_, _, _, _, _, _, _, _, _, _]) | exact (rfl : _ = [_, _, _, _, _, _, _, _, _, _, _]) | exact (rfl : _ = [_, _, _, _, _, _, _, _, _, _, _, _]))))); (· exact (by first | exact .nil | exact .own rfl (by first | rfl | exact onesB_map _) | exact .fz (by first | rfl | (simp; done) | exact (flatMap_len (s := 1) (fun _ => rfl) _).trans (by omega)))); (· rfl); (· show (_ : Nat) ≤ 140737488355328; omega); (· first | rfl | (simp only [freshB, noRefH, OB.cells, refsL_fv, refsL_app]; rfl)))
      | (apply Ops.stoW; (· rfl); (· rfl); (· rfl); (· rfl); (· rfl); (· rfl); (· first | rfl | exact onesB_map _); (· rfl); (· exact rfl); (· exact (by repeat' (first | exact .here | apply Repl.there rfl))))
      | (apply Ops.stoB; (· rfl); (· rfl); (· rfl); (· rfl); (· rfl); (· rfl); (· first | rfl | exact onesB_map _); (· rfl); (· exact rfl); (· exact (by repeat' (first | exact .here | apply Repl.there rfl))))
      | (apply Ops.callA false; (· rfl); (· rfl); (· rfl); (· rfl); (· rfl); (· rfl); (· exact hcp); (· skip; (repeat' (first | exact trivial | exact AV.ToL.nil | exact .ptr rfl | exact .sl rfl | exact AV.To.nil rfl | exact .le (.refl _) rfl | exact .frz rfl rfl rfl | exact .frp rfl rfl rfl | exact .le AV.Le.nil rfl | refine AV.To.agg ?_ | refine AV.To.fn ?_ | refine AV.ToL.cons ?_ ?_ | exact OB.To.nil rfl | refine OB.To.row rfl rfl rfl ?_ | refine OB.To.box rfl rfl ?_ | exact .ofEq rfl | refine ⟨?_, ?_⟩ | fail))); (· skip; (repeat' (first | exact trivial | exact AV.ToL.nil | exact .ptr rfl | exact .sl rfl | exact AV.To.nil rfl | exact .le (.refl _) rfl | exact .frz rfl rfl rfl | exact .frp rfl rfl rfl | exact .le AV.Le.nil rfl | refine AV.To.agg ?_ | refine AV.To.fn ?_ | refine AV.ToL.cons ?_ ?_ | exact OB.To.nil rfl | refine OB.To.row rfl rfl rfl ?_ | refine OB.To.box rfl rfl ?_ | exact .ofEq rfl | refine ⟨?_, ?_⟩ | fail))); (· rfl); (· rfl); (· skip; (repeat' (first | exact OwnRn.nil | apply OwnRn.cons rfl | apply OB.Rn.row | apply OB.Rn.box | exact AV.RnL.maps _ | exact AV.RnL.nil | exact AV.Rn.nil | exact AV.Rn.le rfl | exact AV.Rn.ptr rfl | exact AV.Rn.sl rfl | apply AV.RnL.cons | apply AV.Rn.agg | apply AV.Rn.tup | apply AV.Rn.fn | apply AV.RnL.app | apply AV.RnL.mapsS | fail))); (· skip; (repeat' (first | exact OwnRn.nil | apply OwnRn.cons rfl | apply OB.Rn.row | apply OB.Rn.box | exact AV.RnL.maps _ | exact AV.RnL.nil | exact AV.Rn.nil | exact AV.Rn.le rfl | exact AV.Rn.ptr rfl | exact AV.Rn.sl rfl | apply AV.RnL.cons | apply AV.Rn.agg | apply AV.Rn.tup | apply AV.Rn.fn | apply AV.RnL.app | apply AV.RnL.mapsS | fail))); (· rfl); (· rfl); (· exact (by first | exact (rfl : _ = []) | exact (rfl : _ = [_]) | exact (rfl : _ = [_, _]) | exact (rfl : _ = [_, _, _]) | exact (rfl : _ = [_, _, _, _]) | exact (rfl : _ = [_, _, _, _, _]) | exact (rfl : _ = [_, _, _, _, _, _]) | exact (rfl : _ = [_, _, _, _, _, _, _]) | exact (rfl : _ = [_, _, _, _, _, _, _, _]) | exact (rfl : _ = [_, _, _, _, _, _, _, _, _]) | exact (rfl : _ = [_, _, _, _, _, _, _, _, _, _]) | exact (rfl : _ = [_, _, _, _, _, _, _, _, _, _, _]) | exact (rfl : _ = [_, _, _, _, _, _, _, _, _, _, _, _]))); (· first | rfl | (simp only [freeNs, noRefH, OB.cells, refsL_fv, refsL_app]; rfl)); (· exact (by first | exact (rfl : _ = []) | exact (rfl : _ = [_]) | exact (rfl : _ = [_, _]) | exact (rfl : _ = [_, _, _]) | exact (rfl : _ = [_, _, _, _]) | exact (rfl : _ = [_, _, _, _, _]) | exact (rfl : _ = [_, _, _, _, _, _]) | exact (rfl : _ = [_, _, _, _, _, _, _]) | exact (rfl : _ = [_, _, _, _, _, _, _, _]) | exact (rfl : _ = [_, _, _, _, _, _, _, _, _]) | exact (rfl : _ = [_, _, _, _, _, _, _, _, _, _]) | exact (rfl : _ = [_, _, _, _, _, _, _, _, _, _, _]) | exact (rfl : _ = [_, _, _, _, _, _, _, _, _, _, _, _]))))
      | fail)
    all_goals (try exact ([] : List Fp))
    refine .le (s' := ⟨[(4, .optr 4 0), (5, .fv (.int .i64 e))], [(4, .box 50 ((encCf cf0).map .fv))]⟩) ?_ (.fun (.inl rfl) rfl ?_)
    · skip
      refine St.to [] [] rfl rfl ?_ ?_ <;> (repeat' (first | exact trivial | with_reducible rfl | exact .any | exact .ptr rfl | exact .sl rfl | exact .ptr0 rfl | exact .sl0 rfl | exact AV.To.nil rfl | exact .frz rfl rfl rfl | exact .frb rfl rfl (by omega) rfl | exact .frp rfl rfl rfl | refine AV.To.agg ?_ | refine AV.To.tup ?_ | exact .le (.refl _) rfl | exact .le AV.Le.nil rfl | refine AV.To.frzE rfl ?_ ?_ rfl | refine AV.To.frbE rfl ?_ ?_ (by omega) rfl | refine .le (.of_eq ?_) rfl | exact AV.ToL.nil | refine AV.ToL.cons ?_ ?_ | refine .ofEq ?_ | exact OB.To.nil rfl | refine OB.To.row rfl rfl ?_ ?_ | refine OB.To.cut rfl rfl ?_ ?_ ?_ ?_ | refine OB.To.box rfl rfl ?_ | refine ⟨⟨_, rfl, ?_⟩, ?_⟩ | refine ⟨?_, ?_⟩ | fail))
    · rw [applyR_bad (by rw [e0]; first | exact he | decide), e0]
      rfl

set_option maxHeartbeats 4000000 in
theorem applied3_T (c : Cf) (a : De) (hl : c.Fit) (hm : cfMay c = true) (k : a.kind = 3) : Fun Try.prog 23 [.agg ((encCf c).map .fv), .agg ((encDe a).map .fv)] (.tup [.agg ((encCf (applyR c a)).map .fv), .fv (.int .i64 (applyE c a))]) := by
  have hck := confMay_T c hl.small
  refine Fun.body tbl_ok Try.func23 rfl (by kernel_rfl) rfl rfl rfl ?_
  rw [hm] at hck
  have hlen := cfMay_len hm
  have hcp := copyR_T c hl
  have b1 := hlen.ss
  have b2 := hlen.ps
  have b3 := hlen.acs
  have e0 : applyE c a = acFault c a.ac := by rw [applyE, if_neg (by rw [hm]; decide), if_neg (by rw [k]; decide), if_neg (by rw [k]; decide), if_pos k]
  have c1 := aclFault_T c a.ac hl.small
  generalize acFault c a.ac = e at *
  by_cases he : e = 0
  · subst he
    repeat' (first
      | (apply Ops.loc; (· rfl); (· rfl); (· rfl); (· first | exact .eff (.mv rfl) | exact .eff (.asg rfl) | exact .eff (.loadO rfl rfl rfl) | exact .eff (.fldO rfl rfl rfl) | exact .eff (.not rfl) | exact .eff (.bin rfl rfl rfl) | exact .callL rfl rfl rfl (by first | exact hck | exact c1) rfl))
      | with_reducible refine WP.seq ?_
      | with_reducible apply WP.reg tbl_ok rfl
      | with_reducible refine Ops.nil ?_
      | with_reducible refine thenQ.nor ?_
      | with_reducible refine blockQ.nor ?_
      | with_reducible refine WP.block ?_
      | with_reducible refine WP.skip ?_
      | with_reducible refine WP.ret ?_
      | refine WP.condF rfl ?_
      | (refine WP.condT (c := _) (condD rfl (by first | exact decide_eq_true (by omega) | exact bne_iff_ne.2 (by omega) | exact beq_iff_eq.2 (by omega) | (simp only [Bool.or_eq_true, Bool.and_eq_true, Bool.or_eq_false_iff, Bool.and_eq_false_iff, decide_eq_true_eq, decide_eq_false_iff_not, bne_iff_ne, beq_iff_eq, bne_eq_false_iff_eq, beq_eq_false_iff_ne, Bool.not_eq_true', Bool.not_eq_false', ne_eq]; omega))) ?_)
      | (refine WP.condF (c := _) (condD rfl (by first | exact decide_eq_false (by omega) | exact bne_eq_false_iff_eq.2 (by omega) | exact beq_eq_false_iff_ne.2 (by omega) | (simp only [Bool.or_eq_true, Bool.and_eq_true, Bool.or_eq_false_iff, Bool.and_eq_false_iff, decide_eq_true_eq, decide_eq_false_iff_not, bne_iff_ne, beq_iff_eq, bne_eq_false_iff_eq, beq_eq_false_iff_ne, Bool.not_eq_true', Bool.not_eq_false', ne_eq]; omega))) ?_)
      | (apply Ops.new; (· rfl); (· rfl); (· rfl); (· first | exact .eff (.box rfl) | exact .eff (.alloc rfl) | exact .eff (.bsliceS rfl rfl rfl rfl rfl) | exact .eff (.mkS rfl rfl rfl rfl (by omega) (by omega)) | exact .eff (.zeroS rfl rfl (by intro l hl; first | cases hl | exact ⟨_, by injection hl with hl; subst hl; rfl⟩) rfl rfl rfl)); (· first | rfl | (simp only [freshB, noRefH, OB.cells, refsL_fv, refsL_app]; rfl)))
      | (apply Ops.app; (· rfl); (· rfl); (· rfl); (· rfl); (· rfl); (· rfl); (· rfl); (· exact (by first | exact .nil | exact .own rfl (rmv_q (by first | exact (rfl : _ = []) | exact (rfl : _ = [_]) | exact (rfl : _ = [_, _]) | exact (rfl : _ = [_, _, _]) | exact (rfl : _ = [_, _, _, _]) | exact (rfl : _ = [_, _, _, _, _]) | exact (rfl : _ = [_, _, _, _, _, _]) | exact (rfl : _ = [_, _, _, _, _, _, _]) | exact (rfl : _ = [_, _, _, _, _, _, _, _]) | exact (rfl : _ = [_, _, _, _, _, _, _, _, _]) | exact (rfl : _ = [_, _, _, _, _, _, _, _, _, _]) | exact (rfl : _ = [_, _, _, _, _, _, _, _, _, _, _]) | exact (rfl : _ = [_, _, _, _, _, _, _, _, _, _, _, _]))))); (· exact (by first | exact .nil | exact .own rfl (by first | rfl | exact onesB_map _) | exact .fz (by first | rfl | (simp; done) | exact (flatMap_len (s := 1) (fun _ => rfl) _).trans (by omega)))); (· rfl); (· show (_ : Nat) ≤ 140737488355328; omega); (· first | rfl | (simp only [freshB, noRefH, OB.cells, refsL_fv, refsL_app]; rfl)))
      | (apply Ops.stoW; (· rfl); (· rfl); (· rfl); (· rfl); (· rfl); (· rfl); (· first | rfl | exact onesB_map _); (· rfl); (· exact rfl); (· exact (by repeat' (first | exact .here | apply Repl.there rfl))))
      | (apply Ops.stoB; (· rfl); (· rfl); (· rfl); (· rfl); (· rfl); (· rfl); (· first | rfl | exact onesB_map _); (· rfl); (· exact rfl); (· exact (by repeat' (first | exact .here | apply Repl.there rfl))))
      | (apply Ops.callA false; (· rfl); (· rfl); (· rfl); (· rfl); (· rfl); (· rfl); (· exact hcp); (· skip; (repeat' (first | exact trivial | exact AV.ToL.nil | exact .ptr rfl | exact .sl rfl | exact AV.To.nil rfl | exact .le (.refl _) rfl | exact .frz rfl rfl rfl | exact .frp rfl rfl rfl | exact .le AV.Le.nil rfl | refine AV.To.agg ?_ | refine AV.To.fn ?_ | refine AV.ToL.cons ?_ ?_ | exact OB.To.nil rfl | refine OB.To.row rfl rfl rfl ?_ | refine OB.To.box rfl rfl ?_ | exact .ofEq rfl | refine ⟨?_, ?_⟩ | fail))); (· skip; (repeat' (first | exact trivial | exact AV.ToL.nil | exact .ptr rfl | exact .sl rfl | exact AV.To.nil rfl | exact .le (.refl _) rfl | exact .frz rfl rfl rfl | exact .frp rfl rfl rfl | exact .le AV.Le.nil rfl | refine AV.To.agg ?_ | refine AV.To.fn ?_ | refine AV.ToL.cons ?_ ?_ | exact OB.To.nil rfl | refine OB.To.row rfl rfl rfl ?_ | refine OB.To.box rfl rfl ?_ | exact .ofEq rfl | refine ⟨?_, ?_⟩ | fail))); (· rfl); (· rfl); (· skip; (repeat' (first | exact OwnRn.nil | apply OwnRn.cons rfl | apply OB.Rn.row | apply OB.Rn.box | exact AV.RnL.maps _ | exact AV.RnL.nil | exact AV.Rn.nil | exact AV.Rn.le rfl | exact AV.Rn.ptr rfl | exact AV.Rn.sl rfl | apply AV.RnL.cons | apply AV.Rn.agg | apply AV.Rn.tup | apply AV.Rn.fn | apply AV.RnL.app | apply AV.RnL.mapsS | fail))); (· skip; (repeat' (first | exact OwnRn.nil | apply OwnRn.cons rfl | apply OB.Rn.row | apply OB.Rn.box | exact AV.RnL.maps _ | exact AV.RnL.nil | exact AV.Rn.nil | exact AV.Rn.le rfl | exact AV.Rn.ptr rfl | exact AV.Rn.sl rfl | apply AV.RnL.cons | apply AV.Rn.agg | apply AV.Rn.tup | apply AV.Rn.fn | apply AV.RnL.app | apply AV.RnL.mapsS | fail))); (· rfl); (· rfl); (· exact (by first | exact (rfl : _ = []) | exact (rfl : _ = [_]) | exact (rfl : _ = [_, _]) | exact (rfl : _ = [_, _, _]) | exact (rfl : _ = [_, _, _, _]) | exact (rfl : _ = [_, _, _, _, _]) | exact (rfl : _ = [_, _, _, _, _, _]) | exact (rfl : _ = [_, _, _, _, _, _, _]) | exact (rfl : _ = [_, _, _, _, _, _, _, _]) | exact (rfl : _ = [_, _, _, _, _, _, _, _, _]) | exact (rfl : _ = [_, _, _, _, _, _, _, _, _, _]) | exact (rfl : _ = [_, _, _, _, _, _, _, _, _, _, _]) | exact (rfl : _ = [_, _, _, _, _, _, _, _, _, _, _, _]))); (· first | rfl | (simp only [freeNs, noRefH, OB.cells, refsL_fv, refsL_app]; rfl)); (· exact (by first | exact (rfl : _ = []) | exact (rfl : _ = [_]) | exact (rfl : _ = [_, _]) | exact (rfl : _ = [_, _, _]) | exact (rfl : _ = [_, _, _, _]) | exact (rfl : _ = [_, _, _, _, _]) | exact (rfl : _ = [_, _, _, _, _, _]) | exact (rfl : _ = [_, _, _, _, _, _, _]) | exact (rfl : _ = [_, _, _, _, _, _, _, _]) | exact (rfl : _ = [_, _, _, _, _, _, _, _, _]) | exact (rfl : _ = [_, _, _, _, _, _, _, _, _, _]) | exact (rfl : _ = [_, _, _, _, _, _, _, _, _, _, _]) | exact (rfl : _ = [_, _, _, _, _, _, _, _, _, _, _, _]))))
      | fail)
    all_goals (try exact ([] : List Fp))
    refine .le (s' := ⟨[(4, .optr 4 0), (5, .fv (.int .i64 0))], [(4, .box 50 ((encCf (applyD c a)).map .fv))]⟩) ?_ (.fun (.inl rfl) rfl ?_)
    · have e5 : applyD c a = { c with acs := c.acs ++ [a.ac] } := by rw [applyD, if_neg (by rw [k]; decide), if_neg (by rw [k]; decide), if_pos k]
      rw [e5]
      refine St.to [] [18, 318, 58] rfl rfl ?_ ?_ <;> (repeat' (first | exact trivial | with_reducible rfl | exact .any | exact .ptr rfl | exact .sl rfl | exact .ptr0 rfl | exact .sl0 rfl | exact AV.To.nil rfl | exact .frz rfl rfl rfl | exact .frb rfl rfl (by omega) rfl | exact .frp rfl rfl rfl | refine AV.To.agg ?_ | refine AV.To.tup ?_ | exact .le (.refl _) rfl | exact .le AV.Le.nil rfl | refine AV.To.frzE rfl ?_ ?_ rfl | refine AV.To.frbE rfl ?_ ?_ (by omega) rfl | refine .le (.of_eq ?_) rfl | exact AV.ToL.nil | refine AV.ToL.cons ?_ ?_ | refine .ofEq ?_ | exact OB.To.nil rfl | refine OB.To.row rfl rfl ?_ ?_ | refine OB.To.cut rfl rfl ?_ ?_ ?_ ?_ | refine OB.To.box rfl rfl ?_ | refine ⟨⟨_, rfl, ?_⟩, ?_⟩ | refine ⟨?_, ?_⟩ | fail))
      all_goals first | (simp; done) | (rw [List.length_eraseIdx, if_pos (by omega)]; done) | (simp only [List.flatMap_append, List.map_append]; rfl)
    · rw [e0, applyR_ok e0, ← applyD_eq hm e0]
      rfl
  · skip
    repeat' (first
      | (apply Ops.loc; (· rfl); (· rfl); (· rfl); (· first | exact .eff (.mv rfl) | exact .eff (.asg rfl) | exact .eff (.loadO rfl rfl rfl) | exact .eff (.fldO rfl rfl rfl) | exact .eff (.not rfl) | exact .eff (.bin rfl rfl rfl) | exact .eff (.buildS rfl rfl rfl rfl) | exact .callL rfl rfl rfl (by first | exact hck | exact c1) rfl))
      | with_reducible refine WP.seq ?_
      | with_reducible apply WP.reg tbl_ok rfl
      | with_reducible refine Ops.nil ?_
      | with_reducible refine thenQ.nor ?_
      | with_reducible refine thenQ.ret ?_
      | with_reducible refine blockQ.nor ?_
      | with_reducible refine WP.block ?_
      | with_reducible refine WP.skip ?_
      | with_reducible refine WP.ret ?_
      | refine WP.condF rfl ?_
      | (refine WP.condT (c := _) (condD rfl (by first | exact decide_eq_true (by omega) | exact bne_iff_ne.2 (by omega) | exact beq_iff_eq.2 (by omega) | (simp only [Bool.or_eq_true, Bool.and_eq_true, Bool.or_eq_false_iff, Bool.and_eq_false_iff, decide_eq_true_eq, decide_eq_false_iff_not, bne_iff_ne, beq_iff_eq, bne_eq_false_iff_eq, beq_eq_false_iff_ne, Bool.not_eq_true', Bool.not_eq_false', ne_eq]; omega))) ?_)
      | (refine WP.condF (c := _) (condD rfl (by first | exact decide_eq_false (by omega) | exact bne_eq_false_iff_eq.2 (by omega) | exact beq_eq_false_iff_ne.2 (by omega) | (simp only [Bool.or_eq_true, Bool.and_eq_true, Bool.or_eq_false_iff, Bool.and_eq_false_iff, decide_eq_true_eq, decide_eq_false_iff_not, bne_iff_ne, beq_iff_eq, bne_eq_false_iff_eq, beq_eq_false_iff_ne, Bool.not_eq_true', Bool.not_eq_false', ne_eq]; omega))) ?_)
      | (apply Ops.new; (· rfl); (· rfl); (· rfl); (· first | exact .eff (.box rfl) | exact .eff (.alloc rfl) | exact .eff (.bsliceS rfl rfl rfl rfl rfl) | exact .eff (.mkS rfl rfl rfl rfl (by omega) (by omega)) | exact .eff (.zeroS rfl rfl (by intro l hl; first | cases hl | exact ⟨_, by injection hl with hl; subst hl; rfl⟩) rfl rfl rfl)); (· first | rfl | (simp only [freshB, noRefH, OB.cells, refsL_fv, refsL_app]; rfl)))
      | (apply Ops.app; (· rfl); (· rfl); (· rfl); (· rfl); (· rfl); (· rfl); (· rfl); (· exact (by first | exact .nil | exact .own rfl (rmv_q (by first | exact (rfl : _ = []) | exact (rfl : _ = [_]) | exact (rfl : _ = [_, _]) | exact (rfl : _ = [_, _, _]) | exact (rfl : _ = [_, _, _, _]) | exact (rfl : _ = [_, _, _, _, _]) | exact (rfl : _ = [_, _, _, _, _, _]) | exact (rfl : _ = [_, _, _, _, _, _, _]) | exact (rfl : _ = [_, _, _, _, _, _, _, _]) | exact (rfl : _ = [_, _, _, _, _, _, _, _, _]) | exact (rfl : _ = [_, _, _, _, _, _, _, _, _, _]) | exact (rfl : _ = [_, _, _, _, _, _, _, _, _, _, _]) | exact (rfl : _ = [_, _, _, _, _, _, _, _, _, _, _, _]))))); (· exact (by first | exact .nil | exact .own rfl (by first | rfl | exact onesB_map _) | exact .fz (by first | rfl | (simp; done) | exact (flatMap_len (s := 1) (fun _ => rfl) _).trans (by omega)))); (· rfl); (· show (_ : Nat) ≤ 140737488355328; omega); (· first | rfl | (simp only [freshB, noRefH, OB.cells, refsL_fv, refsL_app]; rfl)))
      | (apply Ops.stoW; (· rfl); (· rfl); (· rfl); (· rfl); (· rfl); (· rfl); (· first | rfl | exact onesB_map _); (· rfl); (· exact rfl); (· exact (by repeat' (first | exact .here | apply Repl.there rfl))))
      | (apply Ops.stoB; (· rfl); (· rfl); (· rfl); (· rfl); (· rfl); (· rfl); (· first | rfl | exact onesB_map _); (· rfl); (· exact rfl); (· exact (by repeat' (first | exact .here | apply Repl.there rfl))))
      | (apply Ops.callA false; (· rfl); (· rfl); (· rfl); (· rfl); (· rfl); (· rfl); (· exact hcp); (· skip; (repeat' (first | exact trivial | exact AV.ToL.nil | exact .ptr rfl | exact .sl rfl | exact AV.To.nil rfl | exact .le (.refl _) rfl | exact .frz rfl rfl rfl | exact .frp rfl rfl rfl | exact .le AV.Le.nil rfl | refine AV.To.agg ?_ | refine AV.To.fn ?_ | refine AV.ToL.cons ?_ ?_ | exact OB.To.nil rfl | refine OB.To.row rfl rfl rfl ?_ | refine OB.To.box rfl rfl ?_ | exact .ofEq rfl | refine ⟨?_, ?_⟩ | fail))); (· skip; (repeat' (first | exact trivial | exact AV.ToL.nil | exact .ptr rfl | exact .sl rfl | exact AV.To.nil rfl | exact .le (.refl _) rfl | exact .frz rfl rfl rfl | exact .frp rfl rfl rfl | exact .le AV.Le.nil rfl | refine AV.To.agg ?_ | refine AV.To.fn ?_ | refine AV.ToL.cons ?_ ?_ | exact OB.To.nil rfl | refine OB.To.row rfl rfl rfl ?_ | refine OB.To.box rfl rfl ?_ | exact .ofEq rfl | refine ⟨?_, ?_⟩ | fail))); (· rfl); (· rfl); (· skip; (repeat' (first | exact OwnRn.nil | apply OwnRn.cons rfl | apply OB.Rn.row | apply OB.Rn.box | exact AV.RnL.maps _ | exact AV.RnL.nil | exact AV.Rn.nil | exact AV.Rn.le rfl | exact AV.Rn.ptr rfl | exact AV.Rn.sl rfl | apply AV.RnL.cons | apply AV.Rn.agg | apply AV.Rn.tup | apply AV.Rn.fn | apply AV.RnL.app | apply AV.RnL.mapsS | fail))); (· skip; (repeat' (first | exact OwnRn.nil | apply OwnRn.cons rfl | apply OB.Rn.row | apply OB.Rn.box | exact AV.RnL.maps _ | exact AV.RnL.nil | exact AV.Rn.nil | exact AV.Rn.le rfl | exact AV.Rn.ptr rfl | exact AV.Rn.sl rfl | apply AV.RnL.cons | apply AV.Rn.agg | apply AV.Rn.tup | apply AV.Rn.fn | apply AV.RnL.app | apply AV.RnL.mapsS | fail))); (· rfl); (· rfl); (· exact (by first | exact (rfl : _ = []) | exact (rfl : _ = [_]) | exact (rfl : _ = [_, _]) | exact (rfl : _ = [_, _, _]) | exact (rfl : _ = [_, _, _, _]) | exact (rfl : _ = [_, _, _, _, _]) | exact (rfl : _ = [_, _, _, _, _, _]) | exact (rfl : _ = [_, _, _, _, _, _, _]) | exact (rfl : _ = [_, _, _, _, _, _, _, _]) | exact (rfl : _ = [_, _, _, _, _, _, _, _, _]) | exact (rfl : _ = [_, _, _, _, _, _, _, _, _, _]) | exact (rfl : _ = [_, _, _, _, _, _, _, _, _, _, _]) | exact (rfl : _ = [_, _, _, _, _, _, _, _, _, _, _, _]))); (· first | rfl | (simp only [freeNs, noRefH, OB.cells, refsL_fv, refsL_app]; rfl)); (· exact (by first | exact (rfl : _ = []) | exact (rfl : _ = [_]) | exact (rfl : _ = [_, _]) | exact (rfl : _ = [_, _, _]) | exact (rfl : _ = [_, _, _, _]) | exact (rfl : _ = [_, _, _, _, _]) | exact (rfl : _ = [_, _, _, _, _, _]) | exact (rfl : _ = [_, _, _, _, _, _, _]) | exact (rfl : _ = [_, _, _, _, _, _, _, _]) | exact (rfl : _ = [_, _, _, _, _, _, _, _, _]) | exact (rfl : _ = [_, _, _, _, _, _, _, _, _, _]) | exact (rfl : _ = [_, _, _, _, _, _, _, _, _, _, _]) | exact (rfl : _ = [_, _, _, _, _, _, _, _, _, _, _, _]))))
      | fail)
    all_goals (try exact ([] : List Fp))
    refine .le (s' := ⟨[(4, .optr 4 0), (5, .fv (.int .i64 e))], [(4, .box 50 ((encCf cf0).map .fv))]⟩) ?_ (.fun (.inl rfl) rfl ?_)
    · skip
      refine St.to [] [] rfl rfl ?_ ?_ <;> (repeat' (first | exact trivial | with_reducible rfl | exact .any | exact .ptr rfl | exact .sl rfl | exact .ptr0 rfl | exact .sl0 rfl | exact AV.To.nil rfl | exact .frz rfl rfl rfl | exact .frb rfl rfl (by omega) rfl | exact .frp rfl rfl rfl | refine AV.To.agg ?_ | refine AV.To.tup ?_ | exact .le (.refl _) rfl | exact .le AV.Le.nil rfl | refine AV.To.frzE rfl ?_ ?_ rfl | refine AV.To.frbE rfl ?_ ?_ (by omega) rfl | refine .le (.of_eq ?_) rfl | exact AV.ToL.nil | refine AV.ToL.cons ?_ ?_ | refine .ofEq ?_ | exact OB.To.nil rfl | refine OB.To.row rfl rfl ?_ ?_ | refine OB.To.cut rfl rfl ?_ ?_ ?_ ?_ | refine OB.To.box rfl rfl ?_ | refine ⟨⟨_, rfl, ?_⟩, ?_⟩ | refine ⟨?_, ?_⟩ | fail))
    · rw [applyR_bad (by rw [e0]; first | exact he | decide), e0]
      rfl

end Go.Proofs.Ytdbbmjdeeenlhaa
