/- What is wanted: what the document says of a thing that comes. -/
import Derived.Test.YtdbbmjdeeenlhaaPack07
import Derived.Test.YtdbbmjdeeenlhaaPack05
namespace Go.Proofs.Ytdbbmjdeeenlhaa
open Go.RowKit
set_option maxRecDepth 100000

def swOf (ss : List Sw) (id : Int) : Sw := (ss.find? (fun s => s.id == id)).getD ⟨0, 0, 0⟩
theorem swOf_tenant (ss : List Sw) (id : Int) : (swOf ss id).tenant = tenantAt ss id := by
  unfold swOf tenantAt
  cases ss.find? (fun s => s.id == id) <;> rfl
theorem find_drop {α : Type} {p : α → Bool} {l : List α} {k : Nat} (h : ∀ x ∈ l.take k, p x = false) : l.find? p = (l.drop k).find? p := by
  conv => lhs; rw [← List.take_append_drop k l]
  rw [List.find?_append, List.find?_eq_none.2 (fun x hx => by rw [h x hx]; simp)]
  rfl
theorem take_all {α : Type} {p : α → Prop} {l : List α} {k : Nat} {x : α} (hx : l[k]? = some x) (h : ∀ y ∈ l.take k, p y) (h' : p x) : ∀ y ∈ l.take (k + 1), p y := by
  rw [List.take_add_one, hx]
  intro y hy
  simp at hy
  rcases hy with hy | rfl
  · exact h y hy
  · exact h'
theorem find_at {α : Type} {p : α → Bool} {l : List α} {k : Nat} {x : α} (hx : l[k]? = some x) (h : ∀ y ∈ l.take k, p y = false) (hp : p x = true) : l.find? p = some x := by
  have hlt := (List.getElem?_eq_some_iff.1 hx).1
  have e : l.drop k = x :: l.drop (k + 1) := by rw [List.drop_eq_getElem_cons hlt, (List.getElem?_eq_some_iff.1 hx).2]
  rw [find_drop h, e, List.find?_cons_of_pos hp]
theorem any_of_find {α : Type} {p : α → Bool} (l : List α) : (l.find? p).isSome = l.any p := by
  rw [Bool.eq_iff_iff, List.find?_isSome, List.any_eq_true]

set_option maxHeartbeats 1000000 in
theorem switchOf_T (c : Cf) (id : Int) (hl : c.Small) : Fun Try.prog 115 [.agg ((encCf c).map .fv), .fv (.int .i64 id)] (.tup [.agg ((encSw (swOf c.ss id)).map .fv), .fv (.bool (c.ss.any (fun s => s.id == id)))]) := by
  have hl1 := hl.1
  refine Fun.body tbl_ok Try.func115 rfl (by kernel_rfl) rfl rfl rfl ?_
  repeat' (first
    | (apply Ops.loc; (· rfl); (· rfl); (· rfl); (· first | exact .eff (.asg rfl)))
    | with_reducible refine WP.seq ?_
    | with_reducible apply WP.reg tbl_ok rfl
    | with_reducible refine Ops.nil ?_
    | with_reducible refine thenQ.nor ?_
    | with_reducible refine WP.block ?_
    | (apply Ops.new; (· rfl); (· rfl); (· rfl); (· first | exact .eff (.box rfl) | exact .eff (.alloc rfl) | exact .eff (.bsliceS rfl rfl rfl rfl rfl) | exact .eff (.mkS rfl rfl rfl rfl (by omega) (by omega)) | exact .eff (.zeroS rfl rfl (by intro l hl; first | cases hl | exact ⟨_, by injection hl with hl; subst hl; rfl⟩) rfl rfl rfl)); (· first | rfl | (simp only [freshB, noRefH, OB.cells, refsL_fv, refsL_app]; rfl)))
    | fail)
  all_goals (try exact ([] : List Fp))
  refine WP.loop (ι := Nat) (fun k => ⟨[(1, .fv (.int .i64 id)), (2, .optr 2 0), (4, .optr 4 0), (6, .fv (.int .i64 k))], [(2, .box 50 ((encCf c).map .fv)), (4, .box 52 [.fv (.int .i64 0), .fv (.int .i64 0), .fv (.int .i64 0)])]⟩) (fun k => k ≤ c.ss.length ∧ ∀ x ∈ c.ss.take k, (x.id == id) = false) (fun k => c.ss.length - k) 0 ⟨by omega, by simp⟩ ?_ ?_
  · skip
    refine St.le_of ?_ ?_ <;> (repeat' (first | exact trivial | refine ⟨⟨_, rfl, .refl _⟩, ?_⟩ | refine ⟨⟨_, rfl, .any _⟩, ?_⟩ | refine ⟨⟨_, rfl, .of_eq ?_⟩, ?_⟩ | refine ⟨⟨_, rfl, fun _ _ _ _ h => h⟩, ?_⟩ | fail))
  rintro k ⟨hk, hd⟩
  try dsimp only
  by_cases hlt : k < c.ss.length
  case neg =>
    repeat' (first
      | (apply Ops.loc; (· rfl); (· rfl); (· rfl); (· first | exact .eff (.mv rfl) | exact .eff (.asg rfl) | exact .eff (.loadO rfl rfl rfl) | exact .eff (.fldO rfl rfl rfl) | exact .eff (.lenF rfl rfl) | exact .eff (.bin rfl rfl rfl) | exact .eff (.buildS rfl rfl rfl rfl)))
      | with_reducible refine WP.seq ?_
      | with_reducible apply WP.reg tbl_ok rfl
      | with_reducible refine Ops.nil ?_
      | with_reducible refine thenQ.nor ?_
      | with_reducible refine thenQ.ex ?_
      | with_reducible refine blockQ.hit rfl ?_
      | with_reducible refine WP.block ?_
      | with_reducible refine WP.skip ?_
      | with_reducible refine WP.exit ?_
      | with_reducible refine WP.ret ?_
      | (refine WP.cond rfl ?_ ?_ <;> intro hcond)
      | (apply Ops.stoW; (· rfl); (· rfl); (· rfl); (· rfl); (· rfl); (· rfl); (· first | rfl | exact onesB_map _); (· rfl); (· exact rfl); (· exact (by repeat' (first | exact .here | apply Repl.there rfl))))
      | fail)
    all_goals (try exact ([] : List Fp))
    · exfalso
      simp at hcond
      omega
    · refine .fun (.inl rfl) rfl ?_
      have hn : c.ss.find? (fun s => s.id == id) = none := by
        rw [find_drop hd, List.drop_of_length_le (by omega)]
        rfl
      rw [← any_of_find, swOf, hn]
      rfl
  case pos =>
    obtain ⟨x, hx⟩ : ∃ x, c.ss[k]? = some x := ⟨_, List.getElem?_eq_getElem hlt⟩
    repeat' (first
      | (apply Ops.loc; (· rfl); (· rfl); (· rfl); (· first | (exact .eff (.idxS rfl rfl rfl encSw_len hx)) | exact .eff (.mv rfl) | exact .eff (.asg rfl) | exact .eff (.loadO rfl rfl rfl) | exact .eff (.loadF rfl rfl) | exact .eff (.fldO rfl rfl rfl) | exact .eff (.fldF rfl rfl rfl) | (refine .eff (.add64 rfl rfl ?_ ?_) <;> omega) | exact .eff (.lenF rfl rfl) | exact .eff (.bin rfl rfl rfl) | exact .eff (.buildS rfl rfl rfl rfl)))
      | with_reducible refine WP.seq ?_
      | with_reducible apply WP.reg tbl_ok rfl
      | with_reducible refine Ops.nil ?_
      | with_reducible refine thenQ.nor ?_
      | with_reducible refine thenQ.ex ?_
      | with_reducible refine thenQ.ret ?_
      | with_reducible refine blockQ.nor ?_
      | with_reducible refine blockQ.ret ?_
      | with_reducible refine blockQ.hit rfl ?_
      | with_reducible refine WP.block ?_
      | with_reducible refine WP.skip ?_
      | with_reducible refine WP.exit ?_
      | with_reducible refine WP.ret ?_
      | (refine WP.cond rfl ?_ ?_ <;> intro hcond)
      | (apply Ops.stoW; (· rfl); (· rfl); (· rfl); (· rfl); (· rfl); (· rfl); (· first | rfl | exact onesB_map _); (· rfl); (· exact rfl); (· exact (by repeat' (first | exact .here | apply Repl.there rfl))))
      | fail)
    all_goals (try exact ([] : List Fp))
    · refine .fun (.inl rfl) rfl ?_
      have hn := find_at (p := fun s : Sw => s.id == id) hx hd hcond
      rw [← any_of_find, swOf, hn]
      rfl
    · refine ⟨k + 1, ⟨by omega, take_all hx hd hcond⟩, by omega, ?_⟩
      refine St.le_of ?_ ?_ <;> (repeat' (first | exact trivial | refine ⟨⟨_, rfl, .refl _⟩, ?_⟩ | refine ⟨⟨_, rfl, .any _⟩, ?_⟩ | refine ⟨⟨_, rfl, .of_eq ?_⟩, ?_⟩ | refine ⟨⟨_, rfl, fun _ _ _ _ h => h⟩, ?_⟩ | fail))
    · exfalso
      simp at hcond
      omega
theorem tenantOf_T (c : Cf) (p : Po) (hl : c.Small) : Fun Try.prog 146 [.agg ((encCf c).map .fv), .agg ((encPo p).map .fv)] (.fv (.int .i64 (tenantAt c.ss p.sw))) := by
  refine Fun.body tbl_ok Try.func146 rfl (by kernel_rfl) rfl rfl rfl ?_
  repeat' (first
    | (apply Ops.loc; (· rfl); (· rfl); (· rfl); (· first | exact .eff (.mv rfl) | exact .eff (.asg rfl) | exact .eff (.loadO rfl rfl rfl) | exact .eff (.fldO rfl rfl rfl) | exact .eff (.extract rfl rfl) | exact .callL rfl rfl rfl (by first | exact switchOf_T c _ hl) rfl))
    | with_reducible refine WP.seq ?_
    | with_reducible apply WP.reg tbl_ok rfl
    | with_reducible refine Ops.nil ?_
    | with_reducible refine thenQ.nor ?_
    | with_reducible refine WP.ret ?_
    | (apply Ops.new; (· rfl); (· rfl); (· rfl); (· first | exact .eff (.box rfl) | exact .eff (.alloc rfl) | exact .eff (.bsliceS rfl rfl rfl rfl rfl) | exact .eff (.mkS rfl rfl rfl rfl (by omega) (by omega)) | exact .eff (.zeroS rfl rfl (by intro l hl; first | cases hl | exact ⟨_, by injection hl with hl; subst hl; rfl⟩) rfl rfl rfl)); (· first | rfl | (simp only [freshB, noRefH, OB.cells, refsL_fv, refsL_app]; rfl)))
    | (apply Ops.stoW; (· rfl); (· rfl); (· rfl); (· rfl); (· rfl); (· rfl); (· first | rfl | exact onesB_map _); (· rfl); (· exact rfl); (· exact (by repeat' (first | exact .here | apply Repl.there rfl))))
    | fail)
  all_goals (try exact ([] : List Fp))
  refine .f1 (.inl rfl) rfl ?_
  rw [swOf_tenant]
set_option maxHeartbeats 1000000 in
theorem isTaken_T (c : Cf) (tenant ip : Int) (hl : c.Small) : Fun Try.prog 116 [.agg ((encCf c).map .fv), .fv (.int .i64 tenant), .fv (.int .i64 ip)] (.fv (.bool (takenB c tenant ip))) := by
  have hl1 := hl.1
  have hl2 := hl.2.1
  refine Fun.body tbl_ok Try.func116 rfl (by kernel_rfl) rfl rfl rfl ?_
  repeat' (first
    | (apply Ops.loc; (· rfl); (· rfl); (· rfl); (· first | exact .eff (.asg rfl)))
    | with_reducible refine WP.seq ?_
    | with_reducible apply WP.reg tbl_ok rfl
    | with_reducible refine Ops.nil ?_
    | with_reducible refine thenQ.nor ?_
    | with_reducible refine WP.block ?_
    | (apply Ops.new; (· rfl); (· rfl); (· rfl); (· first | exact .eff (.box rfl) | exact .eff (.alloc rfl) | exact .eff (.bsliceS rfl rfl rfl rfl rfl) | exact .eff (.mkS rfl rfl rfl rfl (by omega) (by omega)) | exact .eff (.zeroS rfl rfl (by intro l hl; first | cases hl | exact ⟨_, by injection hl with hl; subst hl; rfl⟩) rfl rfl rfl)); (· first | rfl | (simp only [freshB, noRefH, OB.cells, refsL_fv, refsL_app]; rfl)))
    | fail)
  all_goals (try exact ([] : List Fp))
  refine WP.loop (ι := Nat) (fun k => ⟨[(1, .fv (.int .i64 tenant)), (2, .fv (.int .i64 ip)), (3, .optr 3 0), (7, .fv (.int .i64 k))], [(3, .box 50 ((encCf c).map .fv))]⟩)
    (fun k => k ≤ c.ss.length ∧ c.ss.any (fun s => s.tenant == tenant && s.gate == ip) = (c.ss.drop k).any (fun s => s.tenant == tenant && s.gate == ip)) (fun k => c.ss.length - k) 0 ⟨by omega, rfl⟩ ?_ ?_
  · skip
    refine St.le_of ?_ ?_ <;> (repeat' (first | exact trivial | refine ⟨⟨_, rfl, .refl _⟩, ?_⟩ | refine ⟨⟨_, rfl, .any _⟩, ?_⟩ | refine ⟨⟨_, rfl, .of_eq ?_⟩, ?_⟩ | refine ⟨⟨_, rfl, fun _ _ _ _ h => h⟩, ?_⟩ | fail))
  rintro k ⟨hk, hd⟩
  try dsimp only
  by_cases hlt : k < c.ss.length
  case pos =>
    obtain ⟨x, hx⟩ : ∃ x, c.ss[k]? = some x := ⟨_, List.getElem?_eq_getElem hlt⟩
    have hat := any_at (p := fun s : Sw => s.tenant == tenant && s.gate == ip) hx
    repeat' (first
      | (apply Ops.loc; (· rfl); (· rfl); (· rfl); (· first | (exact .eff (.idxS rfl rfl rfl encSw_len hx)) | exact .eff (.mv rfl) | exact .eff (.asg rfl) | exact .eff (.loadO rfl rfl rfl) | exact .eff (.loadF rfl rfl) | exact .eff (.fldO rfl rfl rfl) | exact .eff (.fldF rfl rfl rfl) | (refine .eff (.add64 rfl rfl ?_ ?_) <;> omega) | exact .eff (.lenF rfl rfl) | exact .eff (.and rfl rfl rfl) | exact .eff (.bin rfl rfl rfl)))
      | with_reducible refine WP.seq ?_
      | with_reducible apply WP.reg tbl_ok rfl
      | with_reducible refine Ops.nil ?_
      | with_reducible refine thenQ.nor ?_
      | with_reducible refine thenQ.ex ?_
      | with_reducible refine thenQ.ret ?_
      | with_reducible refine blockQ.nor ?_
      | with_reducible refine blockQ.ret ?_
      | with_reducible refine blockQ.hit rfl ?_
      | with_reducible refine WP.block ?_
      | with_reducible refine WP.skip ?_
      | with_reducible refine WP.exit ?_
      | with_reducible refine WP.ret ?_
      | (refine WP.cond rfl ?_ ?_ <;> intro hcond)
      | (apply Ops.gst; (· rfl); (· rfl); (· rfl); (· rfl); (· rfl); (· rfl); (· rfl); (· first | exact .b | exact .w); (· intro hc; repeat' (first | exact trivial | exact fun _ => hc | exact fun _ => hc.1 | exact fun _ => ⟨hc.1.1, hc.1.2⟩ | refine And.intro ?_ ?_)); (· intro hc; first | (exact .eff (.idxS rfl rfl rfl encSw_len hx)) | exact .eff (.mvG rfl) | exact .eff (.asg rfl) | exact .eff (.loadO rfl rfl rfl) | exact .eff (.loadF rfl rfl) | exact .eff (.fldO rfl rfl rfl) | exact .eff (.fldF rfl rfl rfl) | (refine .eff (.add64 rfl rfl ?_ ?_) <;> omega) | exact .eff (.lenF rfl rfl) | exact .eff (.and rfl rfl rfl) | exact .eff (.bin rfl rfl rfl)); (· rfl); (· rfl))
      | fail)
    all_goals (try exact ([] : List Fp))
    · refine .f1 (.inl rfl) rfl ?_
      unfold takenB
      rw [hd, hat, hcond]
      rfl
    · refine ⟨k + 1, ⟨by omega, ?_⟩, by omega, ?_⟩
      · rw [hd, hat, hcond]
        rfl
      · skip
        refine St.le_of ?_ ?_ <;> (repeat' (first | exact trivial | refine ⟨⟨_, rfl, .refl _⟩, ?_⟩ | refine ⟨⟨_, rfl, .any _⟩, ?_⟩ | refine ⟨⟨_, rfl, .of_eq ?_⟩, ?_⟩ | refine ⟨⟨_, rfl, fun _ _ _ _ h => h⟩, ?_⟩ | fail))
    · exfalso
      simp at hcond
      omega
  case neg =>
    have hno : c.ss.any (fun s => s.tenant == tenant && s.gate == ip) = false := by rw [hd, List.drop_of_length_le (by omega)]; rfl
    repeat' (first
      | (apply Ops.loc; (· rfl); (· rfl); (· rfl); (· first | exact .eff (.mv rfl) | exact .eff (.asg rfl) | exact .eff (.loadO rfl rfl rfl) | exact .eff (.fldO rfl rfl rfl) | exact .eff (.lenF rfl rfl) | exact .eff (.bin rfl rfl rfl)))
      | with_reducible refine WP.seq ?_
      | with_reducible apply WP.reg tbl_ok rfl
      | with_reducible refine Ops.nil ?_
      | with_reducible refine thenQ.nor ?_
      | with_reducible refine thenQ.ex ?_
      | with_reducible refine blockQ.hit rfl ?_
      | with_reducible refine WP.block ?_
      | with_reducible refine WP.skip ?_
      | with_reducible refine WP.exit ?_
      | (refine WP.cond rfl ?_ ?_ <;> intro hcond)
      | fail)
    all_goals (try exact ([] : List Fp))
    · exfalso
      simp at hcond
      omega
    refine WP.loop (ι := Nat) (fun k => ⟨[(1, .fv (.int .i64 tenant)), (2, .fv (.int .i64 ip)), (3, .optr 3 0), (8, .fv (.int .i64 k))], [(3, .box 50 ((encCf c).map .fv))]⟩)
      (fun k => k ≤ c.ps.length ∧ c.ps.any (fun p => p.ip == ip && tenantAt c.ss p.sw == tenant) = (c.ps.drop k).any (fun p => p.ip == ip && tenantAt c.ss p.sw == tenant)) (fun k => c.ps.length - k) 0 ⟨by omega, rfl⟩ ?_ ?_
    · skip
      refine St.le_of ?_ ?_ <;> (repeat' (first | exact trivial | refine ⟨⟨_, rfl, .refl _⟩, ?_⟩ | refine ⟨⟨_, rfl, .any _⟩, ?_⟩ | refine ⟨⟨_, rfl, .of_eq ?_⟩, ?_⟩ | refine ⟨⟨_, rfl, fun _ _ _ _ h => h⟩, ?_⟩ | fail))
    rintro j ⟨hj, hjd⟩
    try dsimp only
    by_cases hjlt : j < c.ps.length
    case pos =>
      obtain ⟨x, hx⟩ : ∃ x, c.ps[j]? = some x := ⟨_, List.getElem?_eq_getElem hjlt⟩
      have hat := any_at (p := fun p : Po => p.ip == ip && tenantAt c.ss p.sw == tenant) hx
      repeat' (first
        | (apply Ops.loc; (· rfl); (· rfl); (· rfl); (· first | (exact .eff (.idxS rfl rfl rfl encPo_len hx)) | exact .eff (.mv rfl) | exact .eff (.asg rfl) | exact .eff (.loadO rfl rfl rfl) | exact .eff (.loadF rfl rfl) | exact .eff (.fldO rfl rfl rfl) | exact .eff (.fldF rfl rfl rfl) | (refine .eff (.add64 rfl rfl ?_ ?_) <;> omega) | exact .eff (.lenF rfl rfl) | exact .eff (.and rfl rfl rfl) | exact .eff (.bin rfl rfl rfl)))
        | with_reducible refine WP.seq ?_
        | with_reducible apply WP.reg tbl_ok rfl
        | with_reducible refine Ops.nil ?_
        | with_reducible refine thenQ.nor ?_
        | with_reducible refine thenQ.ex ?_
        | with_reducible refine thenQ.ret ?_
        | with_reducible refine blockQ.nor ?_
        | with_reducible refine blockQ.ret ?_
        | with_reducible refine blockQ.hit rfl ?_
        | with_reducible refine WP.block ?_
        | with_reducible refine WP.skip ?_
        | with_reducible refine WP.exit ?_
        | with_reducible refine WP.ret ?_
        | (refine WP.cond rfl ?_ ?_ <;> intro hcond)
        | (apply Ops.gst; (· rfl); (· rfl); (· rfl); (· rfl); (· rfl); (· rfl); (· rfl); (· first | exact .b | exact .w); (· intro hc; repeat' (first | exact trivial | exact fun _ => hc | exact fun _ => hc.1 | exact fun _ => ⟨hc.1.1, hc.1.2⟩ | refine And.intro ?_ ?_)); (· intro hc; first | (exact .eff (.idxS rfl rfl rfl encPo_len hx)) | exact .eff (.mvG rfl) | exact .eff (.asg rfl) | exact .eff (.loadO rfl rfl rfl) | exact .eff (.loadF rfl rfl) | exact .eff (.fldO rfl rfl rfl) | exact .eff (.fldF rfl rfl rfl) | (refine .eff (.add64 rfl rfl ?_ ?_) <;> omega) | exact .eff (.lenF rfl rfl) | exact .eff (.and rfl rfl rfl) | exact .eff (.bin rfl rfl rfl) | exact .callG rfl rfl rfl (by first | exact tenantOf_T c x hl) rfl); (· rfl); (· rfl))
        | apply WP.drwL tbl_ok mixed_no rfl
        | ((with_reducible apply drwK.mk); (· kernel_rfl); (· first | rfl | (simp only [freeF, List.all_cons, List.all_nil, noRefH, OB.cells, refsL_fv, refsL_app]; rfl)))
        | fail)
      all_goals (try exact ([] : List Fp))
      · refine .f1 (.inl rfl) rfl ?_
        unfold takenB
        rw [hno, hjd, hat, hcond]
        rfl
      · refine ⟨j + 1, ⟨by omega, ?_⟩, by omega, ?_⟩
        · rw [hjd, hat, hcond]
          rfl
        · skip
          refine St.le_of ?_ ?_ <;> (repeat' (first | exact trivial | refine ⟨⟨_, rfl, .refl _⟩, ?_⟩ | refine ⟨⟨_, rfl, .any _⟩, ?_⟩ | refine ⟨⟨_, rfl, .of_eq ?_⟩, ?_⟩ | refine ⟨⟨_, rfl, fun _ _ _ _ h => h⟩, ?_⟩ | fail))
      · exfalso
        simp at hcond
        omega
    case neg =>
      repeat' (first
        | (apply Ops.loc; (· rfl); (· rfl); (· rfl); (· first | exact .eff (.mv rfl) | exact .eff (.asg rfl) | exact .eff (.loadO rfl rfl rfl) | exact .eff (.fldO rfl rfl rfl) | exact .eff (.lenF rfl rfl) | exact .eff (.bin rfl rfl rfl)))
        | with_reducible refine WP.seq ?_
        | with_reducible apply WP.reg tbl_ok rfl
        | with_reducible refine Ops.nil ?_
        | with_reducible refine thenQ.nor ?_
        | with_reducible refine thenQ.ex ?_
        | with_reducible refine blockQ.hit rfl ?_
        | with_reducible refine WP.block ?_
        | with_reducible refine WP.skip ?_
        | with_reducible refine WP.exit ?_
        | with_reducible refine WP.ret ?_
        | (refine WP.cond rfl ?_ ?_ <;> intro hcond)
        | apply WP.drwL tbl_ok mixed_no rfl
        | fail)
      all_goals (try exact ([] : List Fp))
      · exfalso
        simp at hcond
        omega
      · refine .f1 (.inl rfl) rfl ?_
        unfold takenB
        rw [hno, hjd, List.drop_of_length_le (by omega)]
        rfl
end Go.Proofs.Ytdbbmjdeeenlhaa

/- What is wanted: what the document says of a thing that comes. -/
namespace Go.Proofs.Ytdbbmjdeeenlhaa
open Go.RowKit
set_option maxRecDepth 100000

theorem switchFault_T (c : Cf) (s : Sw) (hl : c.Small) : Fun Try.prog 67 [.agg ((encCf c).map .fv), .agg ((encSw s).map .fv)] (.fv (.int .i64 (swFault c s))) := by
  have hsec : (c.ss.any (fun x => x.id == s.id) || (decide (s.gate > 0) && takenB c s.tenant s.gate)) = true ↔ (c.ss.any (fun x => x.id == s.id) = true ∨ (0 < s.gate ∧ takenB c s.tenant s.gate = true)) := by
    rw [Bool.or_eq_true, Bool.and_eq_true, decide_eq_true_iff]
  refine Fun.body tbl_ok Try.func67 rfl (by kernel_rfl) rfl rfl rfl ?_
  repeat' (first
    | (apply Ops.loc; (· rfl); (· rfl); (· rfl); (· first | exact .eff (.mv rfl) | exact .eff (.asg rfl) | exact .eff (.loadO rfl rfl rfl) | exact .eff (.fldO rfl rfl rfl) | exact .eff (.lenF rfl rfl) | exact .eff (.or rfl rfl rfl) | exact .eff (.not rfl) | exact .eff (.extract rfl rfl) | exact .eff (.bin rfl rfl rfl) | exact .callL rfl rfl rfl (by first | exact in_T _ _ _ | exact switchOf_T c _ hl | exact isTaken_T c _ _ hl) rfl))
    | with_reducible refine WP.seq ?_
    | with_reducible apply WP.reg tbl_ok rfl
    | with_reducible refine Ops.nil ?_
    | with_reducible refine thenQ.nor ?_
    | with_reducible refine thenQ.ret ?_
    | with_reducible refine WP.skip ?_
    | with_reducible refine WP.ret ?_
    | (refine WP.cond rfl ?_ ?_ <;> intro hcond)
    | (apply Ops.gst; (· rfl); (· rfl); (· rfl); (· rfl); (· rfl); (· rfl); (· rfl); (· first | exact .b | exact .w); (· intro hc; repeat' (first | exact trivial | exact fun _ => hc | exact fun _ => hc.1 | exact fun _ => ⟨hc.1.1, hc.1.2⟩ | refine And.intro ?_ ?_)); (· intro hc; first | exact .eff (.mvG rfl) | exact .eff (.asg rfl) | exact .eff (.loadO rfl rfl rfl) | exact .eff (.fldO rfl rfl rfl) | exact .eff (.lenF rfl rfl) | exact .eff (.or rfl rfl rfl) | exact .eff (.not rfl) | exact .eff (.extract rfl rfl) | exact .eff (.bin rfl rfl rfl) | exact .callG rfl rfl rfl (by first | exact in_T _ _ _ | exact switchOf_T c _ hl | exact isTaken_T c _ _ hl) rfl); (· rfl); (· rfl))
    | (apply Ops.new; (· rfl); (· rfl); (· rfl); (· first | exact .eff (.box rfl) | exact .eff (.alloc rfl) | exact .eff (.bsliceS rfl rfl rfl rfl rfl) | exact .eff (.mkS rfl rfl rfl rfl (by omega) (by omega)) | exact .eff (.zeroS rfl rfl (by intro l hl; first | cases hl | exact ⟨_, by injection hl with hl; subst hl; rfl⟩) rfl rfl rfl)); (· first | rfl | (simp only [freshB, noRefH, OB.cells, refsL_fv, refsL_app]; rfl)))
    | (apply Ops.stoW; (· rfl); (· rfl); (· rfl); (· rfl); (· rfl); (· rfl); (· first | rfl | exact onesB_map _); (· rfl); (· exact rfl); (· exact (by repeat' (first | exact .here | apply Repl.there rfl))))
    | (apply Ops.gand; (· rfl); (· rfl); (· rfl); (· rfl); (· rfl); (· rfl); (· rfl); (· exact (by first | exact .b | exact .w)); (· rfl); (· rfl); (· rfl); (· simp); (· intro hc; first | exact hc | exact hc.1); (· intro hc; exact ⟨fun h => h.2, fun h => ⟨hc, h⟩⟩))
    | fail)
  all_goals (try exact ([] : List Fp))
  · refine .f1 (.inl rfl) rfl ?_
    rw [swFault, if_pos (by simpa [or_assoc] using hcond)]
  all_goals (have h1 : ¬ (inR s.id 1 500 = false ∨ inR s.tenant 1 9 = false ∨ inR s.gate 0 65535 = false) := by simpa [and_assoc] using ‹(!inR s.id 1 500 || !inR s.tenant 1 9 || !inR s.gate 0 65535) = false›)
  · refine .f1 (.inl rfl) rfl ?_
    rw [swFault, if_neg h1, if_pos (hsec.1 hcond)]
  · refine .f1 (.inl rfl) rfl ?_
    rename_i h2
    rw [swFault, if_neg h1, if_neg (fun h => by rw [hsec.2 h] at h2; cases h2), if_pos (by simp at hcond; omega)]
  · refine .f1 (.inl rfl) rfl ?_
    rename_i h2
    rw [swFault, if_neg h1, if_neg (fun h => by rw [hsec.2 h] at h2; cases h2), if_neg (by simp at hcond; omega)]
set_option maxHeartbeats 2000000 in
theorem portFault_T (c : Cf) (p : Po) (hl : c.Small) : Fun Try.prog 68 [.agg ((encCf c).map .fv), .agg ((encPo p).map .fv)] (.fv (.int .i64 (poFault c p))) := by
  have hl2 := hl.2.1
  refine Fun.body tbl_ok Try.func68 rfl (by kernel_rfl) rfl rfl rfl ?_
  repeat' (first
    | (apply Ops.loc; (· rfl); (· rfl); (· rfl); (· first | exact .eff (.mv rfl) | exact .eff (.asg rfl) | exact .eff (.loadO rfl rfl rfl) | exact .eff (.fldO rfl rfl rfl) | exact .eff (.or rfl rfl rfl) | exact .eff (.not rfl) | exact .eff (.extract rfl rfl) | exact .callL rfl rfl rfl (by first | exact in_T _ _ _ | exact switchOf_T c _ hl) rfl))
    | with_reducible refine WP.seq ?_
    | with_reducible apply WP.reg tbl_ok rfl
    | with_reducible refine Ops.nil ?_
    | with_reducible refine thenQ.nor ?_
    | with_reducible refine thenQ.ret ?_
    | with_reducible refine WP.block ?_
    | with_reducible refine WP.skip ?_
    | with_reducible refine WP.ret ?_
    | (refine WP.cond rfl ?_ ?_ <;> intro hcond)
    | (apply Ops.gst; (· rfl); (· rfl); (· rfl); (· rfl); (· rfl); (· rfl); (· rfl); (· first | exact .b | exact .w); (· intro hc; repeat' (first | exact trivial | exact fun _ => hc | exact fun _ => hc.1 | exact fun _ => ⟨hc.1.1, hc.1.2⟩ | refine And.intro ?_ ?_)); (· intro hc; first | exact .eff (.asg rfl) | exact .eff (.loadO rfl rfl rfl) | exact .eff (.fldO rfl rfl rfl) | exact .eff (.or rfl rfl rfl) | exact .eff (.not rfl) | exact .eff (.extract rfl rfl) | exact .callG rfl rfl rfl (by first | exact in_T _ _ _ | exact switchOf_T c _ hl) rfl); (· rfl); (· rfl))
    | (apply Ops.new; (· rfl); (· rfl); (· rfl); (· first | exact .eff (.box rfl) | exact .eff (.alloc rfl) | exact .eff (.bsliceS rfl rfl rfl rfl rfl) | exact .eff (.mkS rfl rfl rfl rfl (by omega) (by omega)) | exact .eff (.zeroS rfl rfl (by intro l hl; first | cases hl | exact ⟨_, by injection hl with hl; subst hl; rfl⟩) rfl rfl rfl)); (· first | rfl | (simp only [freshB, noRefH, OB.cells, refsL_fv, refsL_app]; rfl)))
    | (apply Ops.stoW; (· rfl); (· rfl); (· rfl); (· rfl); (· rfl); (· rfl); (· first | rfl | exact onesB_map _); (· rfl); (· exact rfl); (· exact (by repeat' (first | exact .here | apply Repl.there rfl))))
    | fail)
  all_goals (try exact ([] : List Fp))
  · refine .f1 (.inl rfl) rfl ?_
    rw [poFault, if_pos (by simpa [or_assoc] using hcond)]
  all_goals (have h1 : ¬ (inR p.id 1 999 = false ∨ inR p.mac 1 59999 = false ∨ inR p.ip 1 65535 = false ∨ inR p.ch (-1) 5 = false) := by simpa [and_assoc] using ‹(!inR p.id 1 999 || !inR p.mac 1 59999 || !inR p.ip 1 65535 || !inR p.ch (-1) 5) = false›)
  · refine .f1 (.inl rfl) rfl ?_
    rw [poFault, if_neg h1, if_pos (by simpa only [Bool.not_eq_true'] using hcond)]
  have h2 : ¬ (c.ss.any (fun x => x.id == p.sw) = false) := by simpa only [Bool.not_eq_false', Bool.not_eq_false] using hcond
  clear hcond
  refine WP.loop (ι := Nat) (fun k => ⟨[(2, .optr 2 0), (3, .optr 3 0), (5, .optr 5 0), (7, .fv (.int .i64 k))], [(2, .box 50 ((encCf c).map .fv)), (3, .box 54 ((encPo p).map .fv)), (5, .box 52 ((encSw (swOf c.ss p.sw)).map .fv))]⟩)
    (fun k => k ≤ c.ps.length ∧ c.ps.any (fun q => q.id == p.id || (q.sw == p.sw && q.mac == p.mac)) = (c.ps.drop k).any (fun q => q.id == p.id || (q.sw == p.sw && q.mac == p.mac))) (fun k => c.ps.length - k) 0 ⟨by omega, rfl⟩ ?_ ?_
  · skip
    refine St.le_of ?_ ?_ <;> (repeat' (first | exact trivial | refine ⟨⟨_, rfl, .refl _⟩, ?_⟩ | refine ⟨⟨_, rfl, .any _⟩, ?_⟩ | refine ⟨⟨_, rfl, .of_eq ?_⟩, ?_⟩ | refine ⟨⟨_, rfl, fun _ _ _ _ h => h⟩, ?_⟩ | fail))
  rintro k ⟨hk, hd⟩
  try dsimp only
  by_cases hlt : k < c.ps.length
  case pos =>
    obtain ⟨x, hx⟩ : ∃ x, c.ps[k]? = some x := ⟨_, List.getElem?_eq_getElem hlt⟩
    have hat := any_at (p := fun q : Po => q.id == p.id || (q.sw == p.sw && q.mac == p.mac)) hx
    repeat' (first
      | (apply Ops.loc; (· rfl); (· rfl); (· rfl); (· first | (exact .eff (.idxS rfl rfl rfl encPo_len hx)) | exact .eff (.mv rfl) | exact .eff (.asg rfl) | exact .eff (.loadO rfl rfl rfl) | exact .eff (.loadF rfl rfl) | exact .eff (.fldO rfl rfl rfl) | exact .eff (.fldF rfl rfl rfl) | (refine .eff (.add64 rfl rfl ?_ ?_) <;> omega) | exact .eff (.lenF rfl rfl) | exact .eff (.or rfl rfl rfl) | exact .eff (.bin rfl rfl rfl)))
      | with_reducible refine WP.seq ?_
      | with_reducible apply WP.reg tbl_ok rfl
      | with_reducible refine Ops.nil ?_
      | with_reducible refine thenQ.nor ?_
      | with_reducible refine thenQ.ex ?_
      | with_reducible refine thenQ.ret ?_
      | with_reducible refine blockQ.nor ?_
      | with_reducible refine blockQ.ret ?_
      | with_reducible refine blockQ.hit rfl ?_
      | with_reducible refine WP.block ?_
      | with_reducible refine WP.skip ?_
      | with_reducible refine WP.exit ?_
      | with_reducible refine WP.ret ?_
      | (refine WP.cond rfl ?_ ?_ <;> intro hcond)
      | (apply Ops.gst; (· rfl); (· rfl); (· rfl); (· rfl); (· rfl); (· rfl); (· rfl); (· first | exact .b | exact .w); (· intro hc; repeat' (first | exact trivial | exact fun _ => hc | exact fun _ => hc.1 | exact fun _ => ⟨hc.1.1, hc.1.2⟩ | refine And.intro ?_ ?_)); (· intro hc; first | (exact .eff (.idxS rfl rfl rfl encPo_len hx)) | exact .eff (.mvG rfl) | exact .eff (.asg rfl) | exact .eff (.loadO rfl rfl rfl) | exact .eff (.loadF rfl rfl) | exact .eff (.fldO rfl rfl rfl) | exact .eff (.fldF rfl rfl rfl) | (refine .eff (.add64 rfl rfl ?_ ?_) <;> omega) | exact .eff (.lenF rfl rfl) | exact .eff (.or rfl rfl rfl) | exact .eff (.bin rfl rfl rfl)); (· rfl); (· rfl))
      | (apply Ops.gand; (· rfl); (· rfl); (· rfl); (· rfl); (· rfl); (· rfl); (· rfl); (· exact (by first | exact .b | exact .w)); (· rfl); (· rfl); (· rfl); (· simp); (· intro hc; first | exact hc | exact hc.1); (· intro hc; exact ⟨fun h => h.2, fun h => ⟨hc, h⟩⟩))
      | apply WP.drwL tbl_ok mixed_no rfl
      | ((with_reducible apply drwK.mk); (· kernel_rfl); (· first | rfl | (simp only [freeF, List.all_cons, List.all_nil, noRefH, OB.cells, refsL_fv, refsL_app]; rfl)))
      | fail)
    all_goals (try exact ([] : List Fp))
    · refine .f1 (.inl rfl) rfl ?_
      rw [poFault, if_neg h1, if_neg h2, if_pos (by rw [hd, hat, hcond]; rfl)]
    · refine ⟨k + 1, ⟨by omega, ?_⟩, by omega, ?_⟩
      · rw [hd, hat, hcond]
        rfl
      · skip
        refine St.le_of ?_ ?_ <;> (repeat' (first | exact trivial | refine ⟨⟨_, rfl, .refl _⟩, ?_⟩ | refine ⟨⟨_, rfl, .any _⟩, ?_⟩ | refine ⟨⟨_, rfl, .of_eq ?_⟩, ?_⟩ | refine ⟨⟨_, rfl, fun _ _ _ _ h => h⟩, ?_⟩ | fail))
    · exfalso
      simp at hcond
      omega
  case neg =>
    have h3 : ¬ (c.ps.any (fun q => q.id == p.id || (q.sw == p.sw && q.mac == p.mac)) = true) := by rw [hd, List.drop_of_length_le (by omega)]; simp
    repeat' (first
      | (apply Ops.loc; (· rfl); (· rfl); (· rfl); (· first | exact .eff (.mv rfl) | exact .eff (.asg rfl) | exact .eff (.loadO rfl rfl rfl) | exact .eff (.fldO rfl rfl rfl) | exact .eff (.lenF rfl rfl) | exact .eff (.bin rfl rfl rfl) | exact .callL rfl rfl rfl (by first | exact isTaken_T c _ _ hl) rfl))
      | with_reducible refine WP.seq ?_
      | with_reducible apply WP.reg tbl_ok rfl
      | with_reducible refine Ops.nil ?_
      | with_reducible refine thenQ.nor ?_
      | with_reducible refine thenQ.ex ?_
      | with_reducible refine thenQ.ret ?_
      | with_reducible refine blockQ.hit rfl ?_
      | with_reducible refine WP.block ?_
      | with_reducible refine WP.skip ?_
      | with_reducible refine WP.exit ?_
      | with_reducible refine WP.ret ?_
      | (refine WP.cond rfl ?_ ?_ <;> intro hcond)
      | apply WP.drwL tbl_ok mixed_no rfl
      | fail)
    all_goals (try exact ([] : List Fp))
    · exfalso
      simp at hcond
      omega
    · refine .f1 (.inl rfl) rfl ?_
      rw [poFault, if_neg h1, if_neg h2, if_neg h3, ← swOf_tenant, if_pos hcond]
    · refine .f1 (.inl rfl) rfl ?_
      rename_i h4
      rw [poFault, if_neg h1, if_neg h2, if_neg h3, ← swOf_tenant, if_neg (fun h => by rw [h] at h4; cases h4), if_pos (by simp at hcond; omega)]
    · refine .f1 (.inl rfl) rfl ?_
      rename_i h4
      rw [poFault, if_neg h1, if_neg h2, if_neg h3, ← swOf_tenant, if_neg (fun h => by rw [h] at h4; cases h4), if_neg (by simp at hcond; omega)]
theorem unit_T (b : Nat) (hb : b ≤ 16) : Fun Try.prog 117 [.fv (.int .i64 b)] (.fv (.int .i64 (unitOf b))) := by
  refine Fun.body tbl_ok Try.func117 rfl (by kernel_rfl) rfl rfl rfl ?_
  repeat' (first
    | (apply Ops.loc; (· rfl); (· rfl); (· rfl); (· first | exact .eff (.asg rfl)))
    | with_reducible refine WP.seq ?_
    | with_reducible apply WP.reg tbl_ok rfl
    | with_reducible refine Ops.nil ?_
    | with_reducible refine thenQ.nor ?_
    | with_reducible refine WP.block ?_
    | fail)
  all_goals (try exact ([] : List Fp))
  refine WP.loop (ι := Nat) (fun k => ⟨[(0, .fv (.int .i64 ((b : Int) - k))), (3, .fv (.int .i64 ((2 ^ (16 - k) : Nat) : Int)))], []⟩) (fun k => k ≤ b) (fun k => b - k) 0 (by omega) ?_ ?_
  · skip
    refine St.le_of ?_ ?_ <;> (repeat' (first | exact trivial | refine ⟨⟨_, rfl, .refl _⟩, ?_⟩ | refine ⟨⟨_, rfl, .any _⟩, ?_⟩ | refine ⟨⟨_, rfl, .of_eq ?_⟩, ?_⟩ | refine ⟨⟨_, rfl, fun _ _ _ _ h => h⟩, ?_⟩ | fail))
  rintro k hk
  try dsimp only
  have hp : (2 : Nat) ^ (16 - k) ≤ 65536 := by
    have := Nat.pow_le_pow_right (n := 2) (by omega) (show 16 - k ≤ 16 by omega)
    simpa using this
  have hpz := Nat.two_pow_pos (16 - k)
  generalize hq : (2 : Nat) ^ (16 - k) = q at hp hpz
  by_cases hlt : k < b
  case pos =>
    repeat' (first
      | (apply Ops.loc; (· rfl); (· rfl); (· rfl); (· first | exact .eff (.mv rfl) | exact .eff (.asg rfl) | (refine .eff (.sub64 rfl rfl ?_ ?_) <;> omega) | exact .eff (.bin rfl rfl rfl) | (refine .eff (.quo64 rfl rfl ?_ ?_ ?_) <;> omega)))
      | with_reducible refine WP.seq ?_
      | with_reducible apply WP.reg tbl_ok rfl
      | with_reducible refine Ops.nil ?_
      | with_reducible refine thenQ.nor ?_
      | with_reducible refine thenQ.ex ?_
      | with_reducible refine blockQ.nor ?_
      | with_reducible refine blockQ.hit rfl ?_
      | with_reducible refine WP.block ?_
      | with_reducible refine WP.skip ?_
      | with_reducible refine WP.exit ?_
      | with_reducible refine WP.ret ?_
      | (refine WP.cond rfl ?_ ?_ <;> intro hcond)
      | fail)
    all_goals (try exact ([] : List Fp))
    · refine ⟨k + 1, by omega, by omega, ?_⟩
      refine St.le_of ?_ ?_ <;> (repeat' (first | exact trivial | refine ⟨⟨_, rfl, .refl _⟩, ?_⟩ | refine ⟨⟨_, rfl, .any _⟩, ?_⟩ | refine ⟨⟨_, rfl, .of_eq ?_⟩, ?_⟩ | refine ⟨⟨_, rfl, fun _ _ _ _ h => h⟩, ?_⟩ | fail))
      · congr 2
        omega
      · rw [show 16 - k = (16 - (k + 1)) + 1 from by omega, Nat.pow_succ] at hq
        generalize (2 : Nat) ^ (16 - (k + 1)) = r at hq ⊢
        congr 2
        omega
    · exfalso
      simp at hcond
      omega
  case neg =>
    repeat' (first
      | (apply Ops.loc; (· rfl); (· rfl); (· rfl); (· first | exact .eff (.mv rfl) | exact .eff (.asg rfl) | (refine .eff (.sub64 rfl rfl ?_ ?_) <;> omega) | exact .eff (.bin rfl rfl rfl) | (refine .eff (.quo64 rfl rfl ?_ ?_ ?_) <;> omega)))
      | with_reducible refine WP.seq ?_
      | with_reducible apply WP.reg tbl_ok rfl
      | with_reducible refine Ops.nil ?_
      | with_reducible refine thenQ.nor ?_
      | with_reducible refine thenQ.ex ?_
      | with_reducible refine blockQ.nor ?_
      | with_reducible refine blockQ.hit rfl ?_
      | with_reducible refine WP.block ?_
      | with_reducible refine WP.skip ?_
      | with_reducible refine WP.exit ?_
      | with_reducible refine WP.ret ?_
      | (refine WP.cond rfl ?_ ?_ <;> intro hcond)
      | fail)
    all_goals (try exact ([] : List Fp))
    · exfalso
      simp at hcond
      omega
    · refine .f1 (.inl rfl) rfl ?_
      have : k = b := by omega
      subst this
      rw [unitOf, Int.toNat_natCast, ← hq]
      simp
set_option maxHeartbeats 2000000 in
theorem aclFault_T (c : Cf) (a : Ac) (hl : c.Small) : Fun Try.prog 69 [.agg ((encCf c).map .fv), .agg ((encAc a).map .fv)] (.fv (.int .i64 (acFault c a))) := by
  refine Fun.body tbl_ok Try.func69 rfl (by kernel_rfl) rfl rfl rfl ?_
  repeat' (first
    | (apply Ops.loc; (· rfl); (· rfl); (· rfl); (· first | exact .eff (.mv rfl) | exact .eff (.asg rfl) | exact .eff (.loadO rfl rfl rfl) | exact .eff (.fldO rfl rfl rfl) | exact .eff (.or rfl rfl rfl) | exact .eff (.not rfl) | exact .callL rfl rfl rfl (by first | exact in_T _ _ _) rfl))
    | with_reducible refine WP.seq ?_
    | with_reducible apply WP.reg tbl_ok rfl
    | with_reducible refine Ops.nil ?_
    | with_reducible refine thenQ.nor ?_
    | with_reducible refine thenQ.ret ?_
    | with_reducible refine WP.skip ?_
    | with_reducible refine WP.ret ?_
    | (refine WP.cond rfl ?_ ?_ <;> intro hcond)
    | (apply Ops.gst; (· rfl); (· rfl); (· rfl); (· rfl); (· rfl); (· rfl); (· rfl); (· first | exact .b | exact .w); (· intro hc; repeat' (first | exact trivial | exact fun _ => hc | exact fun _ => hc.1 | exact fun _ => ⟨hc.1.1, hc.1.2⟩ | refine And.intro ?_ ?_)); (· intro hc; first | exact .eff (.asg rfl) | exact .eff (.loadO rfl rfl rfl) | exact .eff (.fldO rfl rfl rfl) | exact .eff (.or rfl rfl rfl) | exact .eff (.not rfl) | exact .callG rfl rfl rfl (by first | exact in_T _ _ _) rfl); (· rfl); (· rfl))
    | (apply Ops.new; (· rfl); (· rfl); (· rfl); (· first | exact .eff (.box rfl) | exact .eff (.alloc rfl) | exact .eff (.bsliceS rfl rfl rfl rfl rfl) | exact .eff (.mkS rfl rfl rfl rfl (by omega) (by omega)) | exact .eff (.zeroS rfl rfl (by intro l hl; first | cases hl | exact ⟨_, by injection hl with hl; subst hl; rfl⟩) rfl rfl rfl)); (· first | rfl | (simp only [freshB, noRefH, OB.cells, refsL_fv, refsL_app]; rfl)))
    | fail)
  all_goals (try exact ([] : List Fp))
  · refine .f1 (.inl rfl) rfl ?_
    rw [acFault, if_pos (by simpa [or_assoc] using hcond)]
  have h1 : ¬ (inR a.prio 0 1000 = false ∨ inR a.src 0 65535 = false ∨ inR a.dst 0 65535 = false ∨ inR a.srcBits 0 16 = false ∨ inR a.dstBits 0 16 = false ∨ inR a.port (-1) 65535 = false) := by simpa [and_assoc] using hcond
  have g1 := inR_iff.1 (show inR a.src 0 65535 = true by simp_all)
  have g2 := inR_iff.1 (show inR a.dst 0 65535 = true by simp_all)
  have g3 := inR_iff.1 (show inR a.srcBits 0 16 = true by simp_all)
  have g4 := inR_iff.1 (show inR a.dstBits 0 16 = true by simp_all)
  obtain ⟨sb, hsb⟩ := Int.eq_ofNat_of_zero_le g3.1
  obtain ⟨db, hdb⟩ := Int.eq_ofNat_of_zero_le g4.1
  have m1 := unit_T sb (by omega)
  have m2 := unit_T db (by omega)
  rw [← hsb] at m1
  rw [← hdb] at m2
  have p1 : 0 < unitOf a.srcBits := by unfold unitOf; exact Int.pow_pos (by omega)
  have p2 : 0 < unitOf a.dstBits := by unfold unitOf; exact Int.pow_pos (by omega)
  have hsec : (a.src % unitOf a.srcBits != 0 || a.dst % unitOf a.dstBits != 0) = true ↔ (a.src % unitOf a.srcBits ≠ 0 ∨ a.dst % unitOf a.dstBits ≠ 0) := by
    rw [Bool.or_eq_true, bne_iff_ne, bne_iff_ne]
  clear hcond
  repeat' (first
    | (apply Ops.loc; (· rfl); (· rfl); (· rfl); (· first | exact .eff (.mv rfl) | exact .eff (.asg rfl) | exact .eff (.loadO rfl rfl rfl) | exact .eff (.fldO rfl rfl rfl) | exact .eff (.lenF rfl rfl) | exact .eff (.or rfl rfl rfl) | exact .eff (.not rfl) | exact .eff (.extract rfl rfl) | exact .eff (.bin rfl rfl rfl) | (refine .eff (.rem64 rfl rfl ?_ ?_) <;> omega) | exact .callL rfl rfl rfl (by first | exact m1 | exact m2 | exact switchOf_T c _ hl) rfl))
    | with_reducible refine WP.seq ?_
    | with_reducible apply WP.reg tbl_ok rfl
    | with_reducible refine Ops.nil ?_
    | with_reducible refine thenQ.nor ?_
    | with_reducible refine thenQ.ret ?_
    | with_reducible refine WP.skip ?_
    | with_reducible refine WP.ret ?_
    | (refine WP.cond rfl ?_ ?_ <;> intro hcond)
    | (apply Ops.gst; (· rfl); (· rfl); (· rfl); (· rfl); (· rfl); (· rfl); (· rfl); (· first | exact .b | exact .w); (· intro hc; repeat' (first | exact trivial | exact fun _ => hc | exact fun _ => hc.1 | exact fun _ => ⟨hc.1.1, hc.1.2⟩ | refine And.intro ?_ ?_)); (· intro hc; first | exact .eff (.asg rfl) | exact .eff (.loadO rfl rfl rfl) | exact .eff (.fldO rfl rfl rfl) | exact .eff (.lenF rfl rfl) | exact .eff (.or rfl rfl rfl) | exact .eff (.not rfl) | exact .eff (.extract rfl rfl) | exact .eff (.bin rfl rfl rfl) | (refine .eff (.rem64 rfl rfl ?_ ?_) <;> omega) | exact .callG rfl rfl rfl (by first | exact m1 | exact m2 | exact switchOf_T c _ hl) rfl); (· rfl); (· rfl))
    | (apply Ops.new; (· rfl); (· rfl); (· rfl); (· first | exact .eff (.box rfl) | exact .eff (.alloc rfl) | exact .eff (.bsliceS rfl rfl rfl rfl rfl) | exact .eff (.mkS rfl rfl rfl rfl (by omega) (by omega)) | exact .eff (.zeroS rfl rfl (by intro l hl; first | cases hl | exact ⟨_, by injection hl with hl; subst hl; rfl⟩) rfl rfl rfl)); (· first | rfl | (simp only [freshB, noRefH, OB.cells, refsL_fv, refsL_app]; rfl)))
    | (apply Ops.stoW; (· rfl); (· rfl); (· rfl); (· rfl); (· rfl); (· rfl); (· first | rfl | exact onesB_map _); (· rfl); (· exact rfl); (· exact (by repeat' (first | exact .here | apply Repl.there rfl))))
    | apply WP.drwL tbl_ok mixed_no rfl
    | ((with_reducible apply drwK.mk); (· kernel_rfl); (· first | rfl | (simp only [freeF, List.all_cons, List.all_nil, noRefH, OB.cells, refsL_fv, refsL_app]; rfl)))
    | fail)
  all_goals (try exact ([] : List Fp))
  · refine .f1 (.inl rfl) rfl ?_
    rw [acFault, if_neg h1, if_pos (hsec.1 hcond)]
  · refine .f1 (.inl rfl) rfl ?_
    rename_i h2
    rw [acFault, if_neg h1, if_neg (fun h => by rw [hsec.2 h] at h2; cases h2), if_pos (by simpa only [Bool.not_eq_true'] using hcond)]
  · refine .f1 (.inl rfl) rfl ?_
    rename_i h2 h3
    rw [acFault, if_neg h1, if_neg (fun h => by rw [hsec.2 h] at h2; cases h2), if_neg (by simpa only [Bool.not_eq_false', Bool.not_eq_false] using h3), if_pos (by simp at hcond; omega)]
  · refine .f1 (.inl rfl) rfl ?_
    rename_i h2 h3
    rw [acFault, if_neg h1, if_neg (fun h => by rw [hsec.2 h] at h2; cases h2), if_neg (by simpa only [Bool.not_eq_false', Bool.not_eq_false] using h3), if_neg (by simp at hcond; omega)]
end Go.Proofs.Ytdbbmjdeeenlhaa

/- Flows, as plain data; what the document says of them. -/
namespace Go.Proofs.Ytdbbmjdeeenlhaa
open Go.RowKit

structure Mx where
  field : Int
  mask : Int
  value : Int
structure Dx where
  kind : Int
  a : Int
  n : Int
structure Fl where
  table : Int
  prio : Int
  ms : List Mx
  ds : List Dx
def encMx (m : Mx) : List FV := [.int .i64 m.field, .int .i64 m.mask, .int .i64 m.value]
def encDx (d : Dx) : List FV := [.int .i64 d.kind, .int .i64 d.a, .int .i64 d.n]
def encFl (f : Fl) : List FV := [.int .i64 f.table, .int .i64 f.prio, slOf encMx f.ms, slOf encDx f.ds]
def encFr (f : Fr) : List FV := [.int .i64 f.dst, .int .i64 f.src, .int .i64 f.kind, .int .i64 f.ipSrc, .int .i64 f.ipDst, .int .i64 f.ttl, .int .i64 f.port, .str f.body]
def encPk (p : Pk) : List FV := [.int .i64 p.f0, .int .i64 p.f1, .int .i64 p.f2, .int .i64 p.f3, .int .i64 p.f4, .int .i64 p.f5, .int .i64 p.f6, .int .i64 p.f7, .int .i64 p.f8, .int .i64 p.f9, .str p.body]
theorem encMx_len (m : Mx) : (encMx m).length = 3 := rfl
theorem encDx_len (m : Dx) : (encDx m).length = 3 := rfl
theorem encFl_len (m : Fl) : (encFl m).length = 4 := rfl

/-- P2.1: may a thing be done by a flow of a table? -/
def dxMay (d : Dx) (table : Int) (last : Bool) : Bool :=
  if d.kind = 1 then inR d.a 0 9 && word d.n
  else if d.kind = 2 then inR d.a 0 9 && inR d.n 0 9
  else if d.kind = 3 then inR d.a 0 9 && decide (d.n = 0)
  else if d.kind = 4 then decide (d.a = 0) && inR d.n (table + 1) 7 && last
  else if d.kind = 5 then decide (d.a = 0) && word d.n
  else if d.kind = 6 then decide (d.a = 0) && inR d.n 0 5
  else false
/-- P2.1: the bits of a number that a mask has. -/
def maskd (n m : Int) : Int := ((n.toNat &&& m.toNat : Nat) : Int)
def mxOk (m : Mx) : Bool := inR m.field 0 9 && word m.mask && word m.value && decide (maskd m.value m.mask = m.value)
def dxOk (table : Int) : List Dx → Bool
  | [] => true
  | d :: l => dxMay d table l.isEmpty && dxOk table l
def flFault (f : Fl) : Int :=
  if 12 < f.ms.length ∨ 100 < f.ds.length then 1
  else if inR f.table 0 7 = false ∨ inR f.prio 0 2000 = false then 2
  else if f.ms.all mxOk = false then 4
  else if dxOk f.table f.ds = false then 4
  else 0
def flsFault : List Fl → Int
  | [] => 0
  | f :: l => if flFault f = 0 then flsFault l else flFault f
def flowsFault (l : List Fl) : Int := if 5000 < l.length then 1 else flsFault l

theorem flsFault_take {l : List Fl} {k : Nat} (h : ∀ j f, l[j]? = some f → j < k → flFault f = 0) : flsFault l = flsFault (l.drop k) := by
  induction l generalizing k with
  | nil => simp
  | cons f l ih =>
    cases k with
    | zero => rfl
    | succ k =>
      have h0 := h 0 f rfl (by omega)
      rw [List.drop_succ_cons, ← ih (fun j g hj hk => h (j + 1) g (by simpa using hj) (by omega)), flsFault, if_pos h0]
theorem flsFault_at {l : List Fl} {k : Nat} {f : Fl} (hk : l[k]? = some f) (h : flsFault l = flsFault (l.drop k)) : flsFault l = if flFault f = 0 then flsFault (l.drop (k + 1)) else flFault f := by
  rw [h]
  have hlt := (List.getElem?_eq_some_iff.1 hk).1
  have : l.drop k = f :: l.drop (k + 1) := by rw [List.drop_eq_getElem_cons hlt, (List.getElem?_eq_some_iff.1 hk).2]
  rw [this, flsFault]
theorem dxOk_at {t : Int} {l : List Dx} {k : Nat} {d : Dx} (hk : l[k]? = some d) : dxOk t (l.drop k) = (dxMay d t (decide (k + 1 = l.length)) && dxOk t (l.drop (k + 1))) := by
  have hlt := (List.getElem?_eq_some_iff.1 hk).1
  have e : l.drop k = d :: l.drop (k + 1) := by rw [List.drop_eq_getElem_cons hlt, (List.getElem?_eq_some_iff.1 hk).2]
  rw [e, dxOk]
  congr 2
  rw [Bool.eq_iff_iff]
  simp [List.isEmpty_iff, List.drop_eq_nil_iff]
  omega
theorem maskd_le (n m : Int) : 0 ≤ maskd n m ∧ (0 ≤ n → maskd n m ≤ n) := by
  unfold maskd
  have := Nat.and_le_left (n := n.toNat) (m := m.toNat)
  omega
theorem and_step (a k : Nat) : a % 2 ^ (k + 1) = a % 2 ^ k + (if a.testBit k then 2 ^ k else 0) := by
  rw [Nat.mod_pow_succ, Nat.testBit_eq_decide_div_mod_eq]
  by_cases h : a / 2 ^ k % 2 = 1
  · simp [h]
  · have : a / 2 ^ k % 2 = 0 := by omega
    simp [this]
end Go.Proofs.Ytdbbmjdeeenlhaa

/- Acts that change what is wanted, as plain data; what they come to. -/
namespace Go.Proofs.Ytdbbmjdeeenlhaa
open Go.RowKit

structure De where
  kind : Int
  sw : Sw
  po : Po
  ac : Ac
  n : Int
  m : Int
  fr : Fr
def encDe (a : De) : List FV := [.int .i64 a.kind] ++ encSw a.sw ++ encPo a.po ++ encAc a.ac ++ [.int .i64 a.n, .int .i64 a.m] ++ encFr a.fr
theorem encDe_len (x : De) : (encDe x).length = 28 := rfl
def sw0 : Sw := ⟨0, 0, 0⟩
def po0 : Po := ⟨0, 0, 0, 0, 0⟩
def ac0 : Ac := ⟨0, 0, false, 0, 0, 0, 0, 0, false⟩
def frZ : Fr := ⟨0, 0, 0, 0, 0, 0, 0, ⟨#[]⟩⟩
def de0 : De := ⟨0, sw0, po0, ac0, 0, 0, frZ⟩
def cf0 : Cf := ⟨[], [], []⟩
def portB (n : Int) : Po → Bool := fun p => p.id == n

/-- P3.5: what is wrong with an act. -/
def applyE (c : Cf) (a : De) : Int :=
  if cfMay c = false then 8
  else if a.kind = 1 then swFault c a.sw
  else if a.kind = 2 then poFault c a.po
  else if a.kind = 3 then acFault c a.ac
  else if a.kind = 4 ∨ a.kind = 6 then (if idxB (fun p => p.id == a.n) c.ps < 0 then 6 else if a.kind = 6 ∧ inR a.m (-1) 5 = false then 2 else 0)
  else if a.kind = 5 then (if a.n < 0 ∨ (c.acs.length : Int) ≤ a.n then 6 else 0)
  else 3
/-- What is wanted behind it. -/
def applyC (c : Cf) (a : De) : Cf :=
  if a.kind = 1 then { c with ss := c.ss ++ [a.sw] }
  else if a.kind = 2 then { c with ps := c.ps ++ [a.po] }
  else if a.kind = 3 then { c with acs := c.acs ++ [a.ac] }
  else if a.kind = 4 then { c with ps := c.ps.eraseIdx (idxB (fun p => p.id == a.n) c.ps).toNat }
  else if a.kind = 6 then { c with ps := c.ps.modify (idxB (fun p => p.id == a.n) c.ps).toNat fun p => { p with ch := a.m } }
  else { c with acs := c.acs.eraseIdx a.n.toNat }
def applyR (c : Cf) (a : De) : Cf := if applyE c a ≠ 0 then cf0 else applyC c a

theorem swFault_lt {c : Cf} {s : Sw} (h : swFault c s = 0) : c.ss.length < 12 := by
  unfold swFault at h
  repeat' split at h
  all_goals first | omega | (exfalso; omega)
theorem poFault_lt {c : Cf} {s : Po} (h : poFault c s = 0) : c.ps.length < 40 ∧ c.ss.any (fun x => x.id == s.sw) = true := by
  unfold poFault at h
  repeat' split at h
  any_goals (exfalso; omega)
  rename_i h1 h2 h3
  exact ⟨by omega, by simpa using ‹¬ (c.ss.any (fun x => x.id == s.sw) = false)›⟩
theorem acFault_lt {c : Cf} {s : Ac} (h : acFault c s = 0) : c.acs.length < 40 := by
  unfold acFault at h
  repeat' split at h
  all_goals first | omega | (exfalso; omega)
theorem swsMay_len : ∀ {l : List Sw} {c : Cf}, swsMay c l = true → l = [] ∨ c.ss.length + l.length ≤ 12
  | [], _, _ => .inl rfl
  | s :: l, c, h => by
    simp only [swsMay, Bool.and_eq_true, decide_eq_true_eq] at h
    have h1 := swFault_lt h.1
    rcases swsMay_len h.2 with rfl | h2
    · right; simp; omega
    · right; simp at h2 ⊢; omega
theorem posMay_len : ∀ {l : List Po} {c : Cf}, posMay c l = true → (l = [] ∨ c.ps.length + l.length ≤ 40) ∧ ∀ p ∈ l, c.ss.any (fun x => x.id == p.sw) = true
  | [], _, _ => ⟨.inl rfl, by simp⟩
  | s :: l, c, h => by
    simp only [posMay, Bool.and_eq_true, decide_eq_true_eq] at h
    have h1 := poFault_lt h.1
    obtain ⟨h2, h3⟩ := posMay_len h.2
    refine ⟨.inr ?_, fun p hp => ?_⟩
    · rcases h2 with rfl | h2
      · simp; omega
      · simp at h2 ⊢; omega
    · rcases List.mem_cons.1 hp with rfl | hp
      · exact h1.2
      · exact h3 p hp
theorem acsMay_len : ∀ {l : List Ac} {c : Cf}, acsMay c l = true → l = [] ∨ c.acs.length + l.length ≤ 40
  | [], _, _ => .inl rfl
  | s :: l, c, h => by
    simp only [acsMay, Bool.and_eq_true, decide_eq_true_eq] at h
    have h1 := acFault_lt h.1
    rcases acsMay_len h.2 with rfl | h2
    · right; simp; omega
    · right; simp at h2 ⊢; omega
structure CfLen (c : Cf) : Prop where
  ss : c.ss.length ≤ 12
  ps : c.ps.length ≤ 40
  acs : c.acs.length ≤ 40
  wf : c.Wf
theorem cfMay_len {c : Cf} (h : cfMay c = true) : CfLen c := by
  simp only [cfMay, Bool.and_eq_true] at h
  have h1 := swsMay_len h.1.1
  have h2 := posMay_len h.1.2
  have h3 := acsMay_len h.2
  refine ⟨?_, ?_, ?_, h2.2⟩
  · rcases h1 with h | h
    · rw [h]; simp
    · simpa using h
  · rcases h2.1 with h | h
    · rw [h]; simp
    · simpa using h
  · rcases h3 with h | h
    · rw [h]; simp
    · simpa using h
/-- The fault of one port, that of an act: how they hang on the kind. -/
theorem applyE_bad {c : Cf} {a : De} (h : cfMay c = false) : applyE c a = 8 := if_pos h
theorem applyR_bad {c : Cf} {a : De} (h : applyE c a ≠ 0) : applyR c a = cf0 := if_pos h
theorem applyR_ok {c : Cf} {a : De} (h : applyE c a = 0) : applyR c a = applyC c a := if_neg (by omega)
end Go.Proofs.Ytdbbmjdeeenlhaa

/- What is wanted: may it be? The program's answer. -/
namespace Go.Proofs.Ytdbbmjdeeenlhaa
open Go.RowKit
set_option maxRecDepth 100000

theorem take_snoc {α : Type} {l : List α} {k : Nat} {x : α} (h : l[k]? = some x) : l.take (k + 1) = l.take k ++ [x] := by
  rw [List.take_add_one, h]
  rfl
theorem drop_at {α : Type} {l : List α} {k : Nat} {x : α} (hx : l[k]? = some x) : l.drop k = x :: l.drop (k + 1) := by
  have hlt := (List.getElem?_eq_some_iff.1 hx).1
  rw [List.drop_eq_getElem_cons hlt, (List.getElem?_eq_some_iff.1 hx).2]
theorem sws_at {l : List Sw} {k : Nat} {x : Sw} {ps : List Po} {acs : List Ac} (hx : l[k]? = some x) : swsMay ⟨l.take k, ps, acs⟩ (l.drop k) = (decide (swFault ⟨l.take k, ps, acs⟩ x = 0) && swsMay ⟨l.take (k + 1), ps, acs⟩ (l.drop (k + 1))) := by
  rw [drop_at hx, swsMay, take_snoc hx]
theorem pos_at {l : List Po} {k : Nat} {x : Po} {ss : List Sw} {acs : List Ac} (hx : l[k]? = some x) : posMay ⟨ss, l.take k, acs⟩ (l.drop k) = (decide (poFault ⟨ss, l.take k, acs⟩ x = 0) && posMay ⟨ss, l.take (k + 1), acs⟩ (l.drop (k + 1))) := by
  rw [drop_at hx, posMay, take_snoc hx]
theorem acs_at {l : List Ac} {k : Nat} {x : Ac} {ss : List Sw} {ps : List Po} (hx : l[k]? = some x) : acsMay ⟨ss, ps, l.take k⟩ (l.drop k) = (decide (acFault ⟨ss, ps, l.take k⟩ x = 0) && acsMay ⟨ss, ps, l.take (k + 1)⟩ (l.drop (k + 1))) := by
  rw [drop_at hx, acsMay, take_snoc hx]
theorem cut_small {c : Cf} (hl : c.Small) (i j k : Nat) : Cf.Small ⟨c.ss.take i, c.ps.take j, c.acs.take k⟩ :=
  ⟨Nat.lt_of_le_of_lt (List.length_take_le' _ _) hl.1, Nat.lt_of_le_of_lt (List.length_take_le' _ _) hl.2.1, Nat.lt_of_le_of_lt (List.length_take_le' _ _) hl.2.2⟩
theorem int_ne {a : Int} (h : (a != 0) = true) : a ≠ 0 := by simpa using h
theorem int_eq {a : Int} (h : (a != 0) = false) : a = 0 := by simpa using h

set_option maxHeartbeats 4000000 in
theorem confCheck_T (c : Cf) (hl : c.Small) : Fun Try.prog 27 [.agg ((encCf c).map .fv)] (.fv (.int .i64 (if cfMay c = true then 0 else 8))) := by
  have hl1 := hl.1
  have hl2 := hl.2.1
  have hl3 := hl.2.2
  refine Fun.body tbl_ok Try.func27 rfl (by kernel_rfl) rfl rfl rfl ?_
  repeat' (first
    | (apply Ops.loc; (· rfl); (· rfl); (· rfl); (· first | exact .eff (.mv rfl) | exact .eff (.asg rfl) | exact .eff (.loadO rfl rfl rfl) | exact .eff (.fldO rfl rfl rfl) | exact .eff (.lenF rfl rfl) | exact .eff (.buildS rfl rfl rfl rfl)))
    | with_reducible refine WP.seq ?_
    | with_reducible apply WP.reg tbl_ok rfl
    | with_reducible refine Ops.nil ?_
    | with_reducible refine thenQ.nor ?_
    | with_reducible refine WP.block ?_
    | (apply Ops.new; (· rfl); (· rfl); (· rfl); (· first | exact .eff (.box rfl) | exact .eff (.alloc rfl) | exact .eff (.bsliceS rfl rfl rfl rfl rfl) | exact .eff (.mkS rfl rfl rfl rfl (by omega) (by omega)) | exact .eff (.zeroS rfl rfl (by intro l hl; first | cases hl | exact ⟨_, by injection hl with hl; subst hl; rfl⟩) rfl rfl rfl)); (· first | rfl | (simp only [freshB, noRefH, OB.cells, refsL_fv, refsL_app]; rfl)))
    | (apply Ops.stoW; (· rfl); (· rfl); (· rfl); (· rfl); (· rfl); (· rfl); (· first | rfl | exact onesB_map _); (· rfl); (· exact rfl); (· exact (by repeat' (first | exact .here | apply Repl.there rfl))))
    | fail)
  all_goals (try exact ([] : List Fp))
  refine WP.loop (ι := Nat) (fun k => ⟨[(1, .optr 1 0), (3, .optr 3 0), (12, .fv (slOf encSw c.ss)), (13, .fv (.int .i64 c.ss.length)), (14, .fv (.int .i64 k))], [ (1, .box 50 ((encCf c).map .fv)), (3, .box 50 [.osl 900, .nil, .nil]), (900, .row 52 3 (c.ss.take k).length (((c.ss.take k).flatMap encSw).map .fv))]⟩)
    (fun k => k ≤ c.ss.length ∧ k ≤ 12 ∧ swsMay ⟨[], [], []⟩ c.ss = swsMay ⟨c.ss.take k, [], []⟩ (c.ss.drop k)) (fun k => c.ss.length - k) 0 ⟨by omega, by omega, rfl⟩ ?_ ?_
  · skip
    refine St.to [(900, .nil)] [] rfl rfl ?_ ?_ <;> (repeat' (first | exact trivial | with_reducible rfl | exact .any | exact .ptr rfl | exact .sl rfl | exact .ptr0 rfl | exact .sl0 rfl | exact AV.To.nil rfl | exact .frz rfl rfl rfl | exact .frb rfl rfl (by omega) rfl | exact .frp rfl rfl rfl | refine AV.To.agg ?_ | refine AV.To.tup ?_ | exact .le (.refl _) rfl | exact .le AV.Le.nil rfl | refine AV.To.frzE rfl ?_ ?_ rfl | refine AV.To.frbE rfl ?_ ?_ (by omega) rfl | refine .le (.of_eq ?_) rfl | exact AV.ToL.nil | refine AV.ToL.cons ?_ ?_ | refine .ofEq ?_ | exact OB.To.nil rfl | refine OB.To.row rfl rfl ?_ ?_ | refine OB.To.cut rfl rfl ?_ ?_ ?_ ?_ | refine OB.To.box rfl rfl ?_ | refine ⟨⟨_, rfl, ?_⟩, ?_⟩ | refine ⟨?_, ?_⟩ | fail))
  rintro k ⟨hk, hk12, hd⟩
  try dsimp only
  have hlen : (c.ss.take k).length ≤ 12 := by simp; omega
  by_cases hlt : k < c.ss.length
  case pos =>
    obtain ⟨x, hx⟩ : ∃ x, c.ss[k]? = some x := ⟨_, List.getElem?_eq_getElem hlt⟩
    have hat := sws_at (ps := []) (acs := []) hx
    have hsm : Cf.Small ⟨c.ss.take k, [], []⟩ := by have := cut_small hl k 0 0; simpa using this
    repeat' (first
      | (apply Ops.loc; (· rfl); (· rfl); (· rfl); (· first | (exact .eff (.idxS rfl rfl rfl encSw_len hx)) | exact .eff (.mv rfl) | exact .eff (.asg rfl) | exact .eff (.loadO rfl rfl rfl) | exact .eff (.loadF rfl rfl) | exact .eff (.fldO rfl rfl rfl) | (refine .eff (.add64 rfl rfl ?_ ?_) <;> omega) | exact .eff (.lenF rfl rfl) | exact .eff (.bin rfl rfl rfl) | (apply LEff.callBL; (· rfl); (· rfl); (· exact addSwitch_T ⟨c.ss.take k, [], []⟩ x hsm (by intro p hp; simp at hp) hlen); (· skip; repeat' (first | exact .nil | refine .cons ?_ ?_ | exact .le (.refl _) | exact .row rfl | exact .box rfl | exact .cut rfl (by omega) | exact .le .nil | refine .agg ?_ | refine .fn ?_ | fail)); (· rfl))))
      | with_reducible refine WP.seq ?_
      | with_reducible apply WP.reg tbl_ok rfl
      | with_reducible refine Ops.nil ?_
      | with_reducible refine thenQ.nor ?_
      | with_reducible refine thenQ.ex ?_
      | with_reducible refine thenQ.ret ?_
      | with_reducible refine blockQ.nor ?_
      | with_reducible refine blockQ.ret ?_
      | with_reducible refine blockQ.hit rfl ?_
      | with_reducible refine WP.block ?_
      | with_reducible refine WP.skip ?_
      | with_reducible refine WP.exit ?_
      | with_reducible refine WP.ret ?_
      | (refine WP.cond rfl ?_ ?_ <;> intro hcond)
      | (apply Ops.new; (· rfl); (· rfl); (· rfl); (· first | exact .eff (.box rfl) | exact .eff (.alloc rfl) | exact .eff (.bsliceS rfl rfl rfl rfl rfl) | exact .eff (.mkS rfl rfl rfl rfl (by omega) (by omega)) | exact .eff (.zeroS rfl rfl (by intro l hl; first | cases hl | exact ⟨_, by injection hl with hl; subst hl; rfl⟩) rfl rfl rfl)); (· first | rfl | (simp only [freshB, noRefH, OB.cells, refsL_fv, refsL_app]; rfl)))
      | (apply Ops.app; (· rfl); (· rfl); (· rfl); (· rfl); (· rfl); (· rfl); (· rfl); (· exact (by first | exact .nil | exact .own rfl (rmv_q (by first | exact (rfl : _ = []) | exact (rfl : _ = [_]) | exact (rfl : _ = [_, _]) | exact (rfl : _ = [_, _, _]) | exact (rfl : _ = [_, _, _, _]) | exact (rfl : _ = [_, _, _, _, _]) | exact (rfl : _ = [_, _, _, _, _, _]) | exact (rfl : _ = [_, _, _, _, _, _, _]) | exact (rfl : _ = [_, _, _, _, _, _, _, _]) | exact (rfl : _ = [_, _, _, _, _, _, _, _, _]) | exact (rfl : _ = [_, _, _, _, _, _, _, _, _, _]) | exact (rfl : _ = [_, _, _, _, _, _, _, _, _, _, _]) | exact (rfl : _ = [_, _, _, _, _, _, _, _, _, _, _, _]))))); (· exact (by first | exact .nil | exact .own rfl (by first | rfl | exact onesB_map _) | exact .fz (by first | rfl | (simp; done) | exact (flatMap_len (s := 1) (fun _ => rfl) _).trans (by omega)))); (· rfl); (· show (_ : Nat) ≤ 140737488355328; omega); (· first | rfl | (simp only [freshB, noRefH, OB.cells, refsL_fv, refsL_app]; rfl)))
      | (apply Ops.stoW; (· rfl); (· rfl); (· rfl); (· rfl); (· rfl); (· rfl); (· first | rfl | exact onesB_map _); (· rfl); (· exact rfl); (· exact (by repeat' (first | exact .here | apply Repl.there rfl))))
      | (apply Ops.stoB; (· rfl); (· rfl); (· rfl); (· rfl); (· rfl); (· rfl); (· first | rfl | exact onesB_map _); (· rfl); (· exact rfl); (· exact (by repeat' (first | exact .here | apply Repl.there rfl))))
      | fail)
    all_goals (try exact ([] : List Fp))
    · refine .f1 (.inl rfl) rfl ?_
      have : cfMay c = false := by
        unfold cfMay
        rw [hd, hat, decide_eq_false (int_ne hcond)]
        rfl
      rw [this]
      rfl
    · have h0 := int_eq hcond
      have := swFault_lt h0
      refine ⟨k + 1, ⟨by omega, by simp at this; omega, ?_⟩, by omega, ?_⟩
      · rw [hd, hat, decide_eq_true h0]
        rfl
      · skip
        refine St.to [(900, .id 26)] [] rfl rfl ?_ ?_ <;> (repeat' (first | exact trivial | with_reducible rfl | exact .any | exact .ptr rfl | exact .sl rfl | exact .ptr0 rfl | exact .sl0 rfl | exact AV.To.nil rfl | exact .frz rfl rfl rfl | exact .frb rfl rfl (by omega) rfl | exact .frp rfl rfl rfl | refine AV.To.agg ?_ | refine AV.To.tup ?_ | exact .le (.refl _) rfl | exact .le AV.Le.nil rfl | refine AV.To.frzE rfl ?_ ?_ rfl | refine AV.To.frbE rfl ?_ ?_ (by omega) rfl | refine .le (.of_eq ?_) rfl | exact AV.ToL.nil | refine AV.ToL.cons ?_ ?_ | refine .ofEq ?_ | exact OB.To.nil rfl | refine OB.To.row rfl rfl ?_ ?_ | refine OB.To.cut rfl rfl ?_ ?_ ?_ ?_ | refine OB.To.box rfl rfl ?_ | refine ⟨⟨_, rfl, ?_⟩, ?_⟩ | refine ⟨?_, ?_⟩ | fail))
        all_goals first | exact (take_len hx).symm | (rw [take_flat hx, List.map_append]; rfl)
    · exfalso
      simp at hcond
      omega
  case neg =>
    have hek : k = c.ss.length := by omega
    subst hek
    rw [List.drop_of_length_le (Nat.le_refl _)] at hd
    have hsw : swsMay ⟨[], [], []⟩ c.ss = true := hd
    repeat' (first
      | (apply Ops.loc; (· rfl); (· rfl); (· rfl); (· first | exact .eff (.mv rfl) | exact .eff (.loadO rfl rfl rfl) | exact .eff (.fldO rfl rfl rfl) | exact .eff (.lenF rfl rfl) | exact .eff (.bin rfl rfl rfl)))
      | with_reducible refine WP.seq ?_
      | with_reducible apply WP.reg tbl_ok rfl
      | with_reducible refine Ops.nil ?_
      | with_reducible refine thenQ.nor ?_
      | with_reducible refine thenQ.ex ?_
      | with_reducible refine blockQ.hit rfl ?_
      | with_reducible refine WP.block ?_
      | with_reducible refine WP.skip ?_
      | with_reducible refine WP.exit ?_
      | (refine WP.cond rfl ?_ ?_ <;> intro hcond)
      | fail)
    all_goals (try exact ([] : List Fp))
    · exfalso
      simp at hcond
    refine WP.loop (ι := Nat) (fun k => ⟨[(1, .optr 1 0), (3, .optr 3 0), (30, .fv (slOf encPo c.ps)), (31, .fv (.int .i64 c.ps.length)), (32, .fv (.int .i64 k))], [ (1, .box 50 ((encCf c).map .fv)), (3, .box 50 [.osl 900, .osl 901, .nil]), (900, .row 52 3 c.ss.length ((c.ss.flatMap encSw).map .fv)), (901, .row 54 5 (c.ps.take k).length (((c.ps.take k).flatMap encPo).map .fv))]⟩)
      (fun k => k ≤ c.ps.length ∧ k ≤ 40 ∧ Cf.Wf ⟨c.ss, c.ps.take k, []⟩ ∧ posMay ⟨c.ss, [], []⟩ c.ps = posMay ⟨c.ss, c.ps.take k, []⟩ (c.ps.drop k)) (fun k => c.ps.length - k) 0 ⟨by omega, by omega, (by intro p hp; simp at hp), rfl⟩ ?_ ?_
    · skip
      refine St.to [(901, .nil)] [] rfl rfl ?_ ?_ <;> (repeat' (first | exact trivial | with_reducible rfl | exact .any | exact .ptr rfl | exact .sl rfl | exact .ptr0 rfl | exact .sl0 rfl | exact AV.To.nil rfl | exact .frz rfl rfl rfl | exact .frb rfl rfl (by omega) rfl | exact .frp rfl rfl rfl | refine AV.To.agg ?_ | refine AV.To.tup ?_ | exact .le (.refl _) rfl | exact .le AV.Le.nil rfl | refine AV.To.frzE rfl ?_ ?_ rfl | refine AV.To.frbE rfl ?_ ?_ (by omega) rfl | refine .le (.of_eq ?_) rfl | exact AV.ToL.nil | refine AV.ToL.cons ?_ ?_ | refine .ofEq ?_ | exact OB.To.nil rfl | refine OB.To.row rfl rfl ?_ ?_ | refine OB.To.cut rfl rfl ?_ ?_ ?_ ?_ | refine OB.To.box rfl rfl ?_ | refine ⟨⟨_, rfl, ?_⟩, ?_⟩ | refine ⟨?_, ?_⟩ | fail))
      all_goals rw [List.take_of_length_le (Nat.le_refl _)]
    rintro k ⟨hk, hk40, hwf, hd⟩
    try dsimp only
    have hlen : (c.ps.take k).length ≤ 40 := by simp; omega
    by_cases hlt : k < c.ps.length
    case pos =>
      obtain ⟨x, hx⟩ : ∃ x, c.ps[k]? = some x := ⟨_, List.getElem?_eq_getElem hlt⟩
      have hat := pos_at (ss := c.ss) (acs := []) hx
      have hsm : Cf.Small ⟨c.ss, c.ps.take k, []⟩ := by have := cut_small hl c.ss.length k 0; simpa using this
      repeat' (first
        | (apply Ops.loc; (· rfl); (· rfl); (· rfl); (· first | (exact .eff (.idxS rfl rfl rfl encPo_len hx)) | exact .eff (.mv rfl) | exact .eff (.asg rfl) | exact .eff (.loadO rfl rfl rfl) | exact .eff (.loadF rfl rfl) | exact .eff (.fldO rfl rfl rfl) | (refine .eff (.add64 rfl rfl ?_ ?_) <;> omega) | exact .eff (.lenF rfl rfl) | exact .eff (.bin rfl rfl rfl) | (apply LEff.callBL; (· rfl); (· rfl); (· exact addPort_T ⟨c.ss, c.ps.take k, []⟩ x hsm hwf hlen); (· skip; repeat' (first | exact .nil | refine .cons ?_ ?_ | exact .le (.refl _) | exact .row rfl | exact .box rfl | exact .cut rfl (by omega) | exact .le .nil | refine .agg ?_ | refine .fn ?_ | fail)); (· rfl))))
        | with_reducible refine WP.seq ?_
        | with_reducible apply WP.reg tbl_ok rfl
        | with_reducible refine Ops.nil ?_
        | with_reducible refine thenQ.nor ?_
        | with_reducible refine thenQ.ex ?_
        | with_reducible refine thenQ.ret ?_
        | with_reducible refine blockQ.nor ?_
        | with_reducible refine blockQ.ret ?_
        | with_reducible refine blockQ.hit rfl ?_
        | with_reducible refine WP.block ?_
        | with_reducible refine WP.skip ?_
        | with_reducible refine WP.exit ?_
        | with_reducible refine WP.ret ?_
        | (refine WP.cond rfl ?_ ?_ <;> intro hcond)
        | (apply Ops.new; (· rfl); (· rfl); (· rfl); (· first | exact .eff (.box rfl) | exact .eff (.alloc rfl) | exact .eff (.bsliceS rfl rfl rfl rfl rfl) | exact .eff (.mkS rfl rfl rfl rfl (by omega) (by omega)) | exact .eff (.zeroS rfl rfl (by intro l hl; first | cases hl | exact ⟨_, by injection hl with hl; subst hl; rfl⟩) rfl rfl rfl)); (· first | rfl | (simp only [freshB, noRefH, OB.cells, refsL_fv, refsL_app]; rfl)))
        | (apply Ops.app; (· rfl); (· rfl); (· rfl); (· rfl); (· rfl); (· rfl); (· rfl); (· exact (by first | exact .nil | exact .own rfl (rmv_q (by first | exact (rfl : _ = []) | exact (rfl : _ = [_]) | exact (rfl : _ = [_, _]) | exact (rfl : _ = [_, _, _]) | exact (rfl : _ = [_, _, _, _]) | exact (rfl : _ = [_, _, _, _, _]) | exact (rfl : _ = [_, _, _, _, _, _]) | exact (rfl : _ = [_, _, _, _, _, _, _]) | exact (rfl : _ = [_, _, _, _, _, _, _, _]) | exact (rfl : _ = [_, _, _, _, _, _, _, _, _]) | exact (rfl : _ = [_, _, _, _, _, _, _, _, _, _]) | exact (rfl : _ = [_, _, _, _, _, _, _, _, _, _, _]) | exact (rfl : _ = [_, _, _, _, _, _, _, _, _, _, _, _]))))); (· exact (by first | exact .nil | exact .own rfl (by first | rfl | exact onesB_map _) | exact .fz (by first | rfl | (simp; done) | exact (flatMap_len (s := 1) (fun _ => rfl) _).trans (by omega)))); (· rfl); (· show (_ : Nat) ≤ 140737488355328; omega); (· first | rfl | (simp only [freshB, noRefH, OB.cells, refsL_fv, refsL_app]; rfl)))
        | (apply Ops.stoW; (· rfl); (· rfl); (· rfl); (· rfl); (· rfl); (· rfl); (· first | rfl | exact onesB_map _); (· rfl); (· exact rfl); (· exact (by repeat' (first | exact .here | apply Repl.there rfl))))
        | (apply Ops.stoB; (· rfl); (· rfl); (· rfl); (· rfl); (· rfl); (· rfl); (· first | rfl | exact onesB_map _); (· rfl); (· exact rfl); (· exact (by repeat' (first | exact .here | apply Repl.there rfl))))
        | fail)
      all_goals (try exact ([] : List Fp))
      · refine .f1 (.inl rfl) rfl ?_
        have : cfMay c = false := by
          unfold cfMay
          rw [hd, hat, decide_eq_false (int_ne hcond), hsw]
          rfl
        rw [this]
        rfl
      · have h0 := int_eq hcond
        have := poFault_lt h0
        refine ⟨k + 1, ⟨by omega, by have := this.1; simp at this; omega, ?_, ?_⟩, by omega, ?_⟩
        · exact take_all (p := fun p : Po => c.ss.any (fun x => x.id == p.sw) = true) hx hwf this.2
        · rw [hd, hat, decide_eq_true h0]
          rfl
        · skip
          refine St.to [(901, .id 44)] [] rfl rfl ?_ ?_ <;> (repeat' (first | exact trivial | with_reducible rfl | exact .any | exact .ptr rfl | exact .sl rfl | exact .ptr0 rfl | exact .sl0 rfl | exact AV.To.nil rfl | exact .frz rfl rfl rfl | exact .frb rfl rfl (by omega) rfl | exact .frp rfl rfl rfl | refine AV.To.agg ?_ | refine AV.To.tup ?_ | exact .le (.refl _) rfl | exact .le AV.Le.nil rfl | refine AV.To.frzE rfl ?_ ?_ rfl | refine AV.To.frbE rfl ?_ ?_ (by omega) rfl | refine .le (.of_eq ?_) rfl | exact AV.ToL.nil | refine AV.ToL.cons ?_ ?_ | refine .ofEq ?_ | exact OB.To.nil rfl | refine OB.To.row rfl rfl ?_ ?_ | refine OB.To.cut rfl rfl ?_ ?_ ?_ ?_ | refine OB.To.box rfl rfl ?_ | refine ⟨⟨_, rfl, ?_⟩, ?_⟩ | refine ⟨?_, ?_⟩ | fail))
          all_goals first | exact (take_len hx).symm | (rw [take_flat hx, List.map_append]; rfl)
      · exfalso
        simp at hcond
        omega
    case neg =>
      have hek : k = c.ps.length := by omega
      subst hek
      rw [List.drop_of_length_le (Nat.le_refl _)] at hd
      have hpo : posMay ⟨c.ss, [], []⟩ c.ps = true := hd
      repeat' (first
        | (apply Ops.loc; (· rfl); (· rfl); (· rfl); (· first | exact .eff (.mv rfl) | exact .eff (.loadO rfl rfl rfl) | exact .eff (.fldO rfl rfl rfl) | exact .eff (.lenF rfl rfl) | exact .eff (.bin rfl rfl rfl)))
        | with_reducible refine WP.seq ?_
        | with_reducible apply WP.reg tbl_ok rfl
        | with_reducible refine Ops.nil ?_
        | with_reducible refine thenQ.nor ?_
        | with_reducible refine thenQ.ex ?_
        | with_reducible refine blockQ.hit rfl ?_
        | with_reducible refine WP.block ?_
        | with_reducible refine WP.skip ?_
        | with_reducible refine WP.exit ?_
        | (refine WP.cond rfl ?_ ?_ <;> intro hcond)
        | fail)
      all_goals (try exact ([] : List Fp))
      · exfalso
        simp at hcond
      refine WP.loop (ι := Nat) (fun k => ⟨[(1, .optr 1 0), (3, .optr 3 0), (48, .fv (slOf encAc c.acs)), (49, .fv (.int .i64 c.acs.length)), (50, .fv (.int .i64 k))], [ (1, .box 50 ((encCf c).map .fv)), (3, .box 50 [.osl 900, .osl 901, .osl 902]), (900, .row 52 3 c.ss.length ((c.ss.flatMap encSw).map .fv)), (901, .row 54 5 c.ps.length ((c.ps.flatMap encPo).map .fv)), (902, .row 56 9 (c.acs.take k).length (((c.acs.take k).flatMap encAc).map .fv))]⟩)
        (fun k => k ≤ c.acs.length ∧ k ≤ 40 ∧ acsMay ⟨c.ss, c.ps, []⟩ c.acs = acsMay ⟨c.ss, c.ps, c.acs.take k⟩ (c.acs.drop k)) (fun k => c.acs.length - k) 0 ⟨by omega, by omega, rfl⟩ ?_ ?_
      · skip
        refine St.to [(902, .nil)] [] rfl rfl ?_ ?_ <;> (repeat' (first | exact trivial | with_reducible rfl | exact .any | exact .ptr rfl | exact .sl rfl | exact .ptr0 rfl | exact .sl0 rfl | exact AV.To.nil rfl | exact .frz rfl rfl rfl | exact .frb rfl rfl (by omega) rfl | exact .frp rfl rfl rfl | refine AV.To.agg ?_ | refine AV.To.tup ?_ | exact .le (.refl _) rfl | exact .le AV.Le.nil rfl | refine AV.To.frzE rfl ?_ ?_ rfl | refine AV.To.frbE rfl ?_ ?_ (by omega) rfl | refine .le (.of_eq ?_) rfl | exact AV.ToL.nil | refine AV.ToL.cons ?_ ?_ | refine .ofEq ?_ | exact OB.To.nil rfl | refine OB.To.row rfl rfl ?_ ?_ | refine OB.To.cut rfl rfl ?_ ?_ ?_ ?_ | refine OB.To.box rfl rfl ?_ | refine ⟨⟨_, rfl, ?_⟩, ?_⟩ | refine ⟨?_, ?_⟩ | fail))
        all_goals rw [List.take_of_length_le (Nat.le_refl _)]
      rintro k ⟨hk, hk40, hd⟩
      try dsimp only
      have hlen : (c.acs.take k).length ≤ 40 := by simp; omega
      by_cases hlt : k < c.acs.length
      case pos =>
        obtain ⟨x, hx⟩ : ∃ x, c.acs[k]? = some x := ⟨_, List.getElem?_eq_getElem hlt⟩
        have hat := acs_at (ss := c.ss) (ps := c.ps) hx
        have hsm : Cf.Small ⟨c.ss, c.ps, c.acs.take k⟩ := by have := cut_small hl c.ss.length c.ps.length k; simpa using this
        repeat' (first
          | (apply Ops.loc; (· rfl); (· rfl); (· rfl); (· first | (exact .eff (.idxS rfl rfl rfl encAc_len hx)) | exact .eff (.mv rfl) | exact .eff (.asg rfl) | exact .eff (.loadO rfl rfl rfl) | exact .eff (.loadF rfl rfl) | exact .eff (.fldO rfl rfl rfl) | (refine .eff (.add64 rfl rfl ?_ ?_) <;> omega) | exact .eff (.bin rfl rfl rfl) | (apply LEff.callBL; (· rfl); (· rfl); (· exact addAcl_T ⟨c.ss, c.ps, c.acs.take k⟩ x hsm hlen); (· skip; repeat' (first | exact .nil | refine .cons ?_ ?_ | exact .le (.refl _) | exact .row rfl | exact .box rfl | exact .cut rfl (by omega) | exact .le .nil | refine .agg ?_ | refine .fn ?_ | fail)); (· rfl))))
          | with_reducible refine WP.seq ?_
          | with_reducible apply WP.reg tbl_ok rfl
          | with_reducible refine Ops.nil ?_
          | with_reducible refine thenQ.nor ?_
          | with_reducible refine thenQ.ex ?_
          | with_reducible refine thenQ.ret ?_
          | with_reducible refine blockQ.nor ?_
          | with_reducible refine blockQ.ret ?_
          | with_reducible refine blockQ.hit rfl ?_
          | with_reducible refine WP.block ?_
          | with_reducible refine WP.skip ?_
          | with_reducible refine WP.exit ?_
          | with_reducible refine WP.ret ?_
          | (refine WP.cond rfl ?_ ?_ <;> intro hcond)
          | (apply Ops.new; (· rfl); (· rfl); (· rfl); (· first | exact .eff (.box rfl) | exact .eff (.alloc rfl) | exact .eff (.bsliceS rfl rfl rfl rfl rfl) | exact .eff (.mkS rfl rfl rfl rfl (by omega) (by omega)) | exact .eff (.zeroS rfl rfl (by intro l hl; first | cases hl | exact ⟨_, by injection hl with hl; subst hl; rfl⟩) rfl rfl rfl)); (· first | rfl | (simp only [freshB, noRefH, OB.cells, refsL_fv, refsL_app]; rfl)))
          | (apply Ops.app; (· rfl); (· rfl); (· rfl); (· rfl); (· rfl); (· rfl); (· rfl); (· exact (by first | exact .nil | exact .own rfl (rmv_q (by first | exact (rfl : _ = []) | exact (rfl : _ = [_]) | exact (rfl : _ = [_, _]) | exact (rfl : _ = [_, _, _]) | exact (rfl : _ = [_, _, _, _]) | exact (rfl : _ = [_, _, _, _, _]) | exact (rfl : _ = [_, _, _, _, _, _]) | exact (rfl : _ = [_, _, _, _, _, _, _]) | exact (rfl : _ = [_, _, _, _, _, _, _, _]) | exact (rfl : _ = [_, _, _, _, _, _, _, _, _]) | exact (rfl : _ = [_, _, _, _, _, _, _, _, _, _]) | exact (rfl : _ = [_, _, _, _, _, _, _, _, _, _, _]) | exact (rfl : _ = [_, _, _, _, _, _, _, _, _, _, _, _]))))); (· exact (by first | exact .nil | exact .own rfl (by first | rfl | exact onesB_map _) | exact .fz (by first | rfl | (simp; done) | exact (flatMap_len (s := 1) (fun _ => rfl) _).trans (by omega)))); (· rfl); (· show (_ : Nat) ≤ 140737488355328; omega); (· first | rfl | (simp only [freshB, noRefH, OB.cells, refsL_fv, refsL_app]; rfl)))
          | (apply Ops.stoW; (· rfl); (· rfl); (· rfl); (· rfl); (· rfl); (· rfl); (· first | rfl | exact onesB_map _); (· rfl); (· exact rfl); (· exact (by repeat' (first | exact .here | apply Repl.there rfl))))
          | (apply Ops.stoB; (· rfl); (· rfl); (· rfl); (· rfl); (· rfl); (· rfl); (· first | rfl | exact onesB_map _); (· rfl); (· exact rfl); (· exact (by repeat' (first | exact .here | apply Repl.there rfl))))
          | fail)
        all_goals (try exact ([] : List Fp))
        · refine .f1 (.inl rfl) rfl ?_
          have : cfMay c = false := by
            unfold cfMay
            rw [hd, hat, decide_eq_false (int_ne hcond), hsw, hpo]
            rfl
          rw [this]
          rfl
        · have h0 := int_eq hcond
          have := acFault_lt h0
          refine ⟨k + 1, ⟨by omega, by simp at this; omega, ?_⟩, by omega, ?_⟩
          · rw [hd, hat, decide_eq_true h0]
            rfl
          · skip
            refine St.to [(902, .id 62)] [] rfl rfl ?_ ?_ <;> (repeat' (first | exact trivial | with_reducible rfl | exact .any | exact .ptr rfl | exact .sl rfl | exact .ptr0 rfl | exact .sl0 rfl | exact AV.To.nil rfl | exact .frz rfl rfl rfl | exact .frb rfl rfl (by omega) rfl | exact .frp rfl rfl rfl | refine AV.To.agg ?_ | refine AV.To.tup ?_ | exact .le (.refl _) rfl | exact .le AV.Le.nil rfl | refine AV.To.frzE rfl ?_ ?_ rfl | refine AV.To.frbE rfl ?_ ?_ (by omega) rfl | refine .le (.of_eq ?_) rfl | exact AV.ToL.nil | refine AV.ToL.cons ?_ ?_ | refine .ofEq ?_ | exact OB.To.nil rfl | refine OB.To.row rfl rfl ?_ ?_ | refine OB.To.cut rfl rfl ?_ ?_ ?_ ?_ | refine OB.To.box rfl rfl ?_ | refine ⟨⟨_, rfl, ?_⟩, ?_⟩ | refine ⟨?_, ?_⟩ | fail))
            all_goals first | exact (take_len hx).symm | (rw [take_flat hx, List.map_append]; rfl)
        · exfalso
          simp at hcond
          omega
      case neg =>
        have hek : k = c.acs.length := by omega
        subst hek
        rw [List.drop_of_length_le (Nat.le_refl _)] at hd
        have hac : acsMay ⟨c.ss, c.ps, []⟩ c.acs = true := hd
        have hall : cfMay c = true := by
          unfold cfMay
          rw [hsw, hpo, hac]
          rfl
        repeat' (first
          | (apply Ops.loc; (· rfl); (· rfl); (· rfl); (· first | exact .eff (.asg rfl) | exact .eff (.bin rfl rfl rfl)))
          | with_reducible refine WP.seq ?_
          | with_reducible apply WP.reg tbl_ok rfl
          | with_reducible refine Ops.nil ?_
          | with_reducible refine thenQ.nor ?_
          | with_reducible refine thenQ.ex ?_
          | with_reducible refine blockQ.hit rfl ?_
          | with_reducible refine WP.block ?_
          | with_reducible refine WP.skip ?_
          | with_reducible refine WP.exit ?_
          | with_reducible refine WP.ret ?_
          | (refine WP.cond rfl ?_ ?_ <;> intro hcond)
          | fail)
        all_goals (try exact ([] : List Fp))
        · exfalso
          simp at hcond
        · refine .f1 (.inl rfl) rfl ?_
          rw [hall]
          rfl
end Go.Proofs.Ytdbbmjdeeenlhaa
