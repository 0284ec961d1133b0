import Derived.Test.YtmidechdlbcepaaGreatPack51
import Derived.Test.YtmidechdlbcepaaGreatPack36
set_option linter.unusedSimpArgs false
set_option linter.unusedVariables false
namespace Go.Proofs.YtmidechdlbcepaaGreat
open Go.RowKit
set_option maxRecDepth 100000
def swOf (ss : List Sw) (id : Int) : Sw := (ss.find? (fun s => s.id == id)).getD ⟨0, 0, 0⟩
theorem swOf_tenant (ss : List Sw) (id : Int) : (swOf ss id).tenant = tenantAt ss id := by
  unfold swOf tenantAt
  cases ss.find? (fun s => s.id == id) <;> rfl
theorem find_drop {α : Type} {p : α → Bool} {l : List α} {k : Nat} (h : ∀ x ∈ l.take k, p x = false) : l.find? p = (l.drop k).find? p := by
  conv => lhs; rw [← List.take_append_drop k l]
  rw [List.find?_append, List.find?_eq_none.2 (fun x hx => by rw [h x hx]; simp)]
  rfl
theorem find_at {α : Type} {p : α → Bool} {l : List α} {k : Nat} {x : α} (hx : l[k]? = some x) (h : ∀ y ∈ l.take k, p y = false) (hp : p x = true) : l.find? p = some x := by
  have hlt := (List.getElem?_eq_some_iff.1 hx).1
  have e : l.drop k = x :: l.drop (k + 1) := by rw [List.drop_eq_getElem_cons hlt, (List.getElem?_eq_some_iff.1 hx).2]
  rw [find_drop h, e, List.find?_cons_of_pos hp]
theorem any_of_find {α : Type} {p : α → Bool} (l : List α) : (l.find? p).isSome = l.any p := by
  rw [Bool.eq_iff_iff, List.find?_isSome, List.any_eq_true]

set_option maxHeartbeats 1000000 in
theorem switchOf_T (c : Cf) (id : Int) (hl : c.Small) : Fun Tryz.prog 108 [.agg ((encCf c).map .fv), .fv (.int .i64 id)] (.tup [.agg ((encSw (swOf c.ss id)).map .fv), .fv (.bool (c.ss.any (fun s => s.id == id)))]) := by
  have hl1 := hl.1
  refine Fun.body tbl_ok Tryz.func108 rfl (by kernel_rfl) rfl rfl rfl ?_
  repeat' (first | refine X.loc ?_ | refine nx ?_ | refine cb ?_ ?_ | (refine cc ?_ ?_ <;> intro hcond) | refine rb ?_ | refine nd ?_ | refine dk ?_ | fail)
  refine WP.loop (ι := Nat) (fun k => ⟨[(1, .fv (.int .i64 id)), (2, .optr 2 0), (4, .optr 4 0), (6, .fv (.int .i64 k))], [(2, .box 26 ((encCf c).map .fv)), (4, .box 44 [.fv (.int .i64 0), .fv (.int .i64 0), .fv (.int .i64 0)])]⟩) (fun k => k ≤ c.ss.length ∧ ∀ x ∈ c.ss.take k, (x.id == id) = false) (fun k => c.ss.length - k) 0 ⟨by omega, by simp⟩ ?_ ?_
  · exact lq
  rintro k ⟨hk, hd⟩
  try dsimp only
  by_cases hlt : k < c.ss.length
  case neg =>
    repeat' (first | refine X.loc ?_ | refine nx ?_ | refine cb ?_ ?_ | (refine cc ?_ ?_ <;> intro hcond) | refine rb ?_ | refine nd ?_ | refine dk ?_ | fail)
    · exfalso
      simp at hcond
      omega
    · refine .fun (.inl rfl) rfl ?_
      have hn : c.ss.find? (fun s => s.id == id) = none := by
        rw [find_drop hd, List.drop_of_length_le (by omega)]
        rfl
      rw [← any_of_find, swOf, hn]
      rfl
  case pos =>
    obtain ⟨x, hx⟩ : ∃ x, c.ss[k]? = some x := ⟨_, List.getElem?_eq_getElem hlt⟩
    repeat' (first | (apply X.loE; (· exact aR); (· first | (exact .eff (.idxS rfl rfl rfl encSw_len hx)))) | refine X.loc ?_ | refine nx ?_ | refine cb ?_ ?_ | (refine cc ?_ ?_ <;> intro hcond) | (apply X.gsE; (· exact aR); (· exact aV); (· exact aW); (· intro hc; first | (exact .eff (.idxS rfl rfl rfl encSw_len hx))); (· exact aR)) | refine rb ?_ | refine nd ?_ | refine dk ?_ | fail)
    · refine .fun (.inl rfl) rfl ?_
      have hn := find_at (p := fun s : Sw => s.id == id) hx hd hcond
      rw [← any_of_find, swOf, hn]
      rfl
    · refine ⟨k + 1, ⟨by omega, take_all hx hd hcond⟩, by omega, ?_⟩
      exact lq
    · exfalso
      simp at hcond
      omega
theorem tenantOf_T (c : Cf) (p : Po) (hl : c.Small) : Fun Tryz.prog 145 [.agg ((encCf c).map .fv), .agg ((encPo p).map .fv)] (.fv (.int .i64 (tenantAt c.ss p.sw))) := by
  refine Fun.body tbl_ok Tryz.func145 rfl (by kernel_rfl) rfl rfl rfl ?_
  repeat' (first | (apply X.loE; (· exact aR); (· first | exact .callL rfl rfl rfl (switchOf_T c _ hl) rfl | exact bl (switchOf_T c _ hl))) | refine X.loc ?_ | refine nx ?_ | refine cb ?_ ?_ | (refine cc ?_ ?_ <;> intro hcond) | (apply X.gsE; (· exact aR); (· exact aV); (· exact aW); (· intro hc; first | exact .callG rfl rfl rfl (switchOf_T c _ hl) rfl | exact bg (switchOf_T c _ hl)); (· exact aR)) | refine rb ?_ | refine nd ?_ | refine dk ?_ | fail)
  refine .f1 (.inl rfl) rfl ?_
  rw [swOf_tenant]
set_option maxHeartbeats 1000000 in
theorem isTaken_T (c : Cf) (tenant ip : Int) (hl : c.Small) : Fun Tryz.prog 109 [.agg ((encCf c).map .fv), .fv (.int .i64 tenant), .fv (.int .i64 ip)] (.fv (.bool (takenB c tenant ip))) := by
  have hl1 := hl.1
  have hl2 := hl.2.1
  refine Fun.body tbl_ok Tryz.func109 rfl (by kernel_rfl) rfl rfl rfl ?_
  repeat' (first | refine X.loc ?_ | refine nx ?_ | refine cb ?_ ?_ | (refine cc ?_ ?_ <;> intro hcond) | refine rb ?_ | refine nd ?_ | refine dk ?_ | fail)
  refine WP.loop (ι := Nat) (fun k => ⟨[(1, .fv (.int .i64 tenant)), (2, .fv (.int .i64 ip)), (3, .optr 3 0), (7, .fv (.int .i64 k))], [(3, .box 26 ((encCf c).map .fv))]⟩)
    (fun k => k ≤ c.ss.length ∧ c.ss.any (fun s => s.tenant == tenant && s.gate == ip) = (c.ss.drop k).any (fun s => s.tenant == tenant && s.gate == ip)) (fun k => c.ss.length - k) 0 ⟨by omega, rfl⟩ ?_ ?_
  · exact lq
  rintro k ⟨hk, hd⟩
  try dsimp only
  by_cases hlt : k < c.ss.length
  case pos =>
    obtain ⟨x, hx⟩ : ∃ x, c.ss[k]? = some x := ⟨_, List.getElem?_eq_getElem hlt⟩
    have hat := any_at (p := fun s : Sw => s.tenant == tenant && s.gate == ip) hx
    repeat' (first | (apply X.loE; (· exact aR); (· first | (exact .eff (.idxS rfl rfl rfl encSw_len hx)))) | refine X.loc ?_ | refine nx ?_ | refine cb ?_ ?_ | (refine cc ?_ ?_ <;> intro hcond) | (apply X.gsE; (· exact aR); (· exact aV); (· exact aW); (· intro hc; first | (exact .eff (.idxS rfl rfl rfl encSw_len hx))); (· exact aR)) | refine rb ?_ | refine nd ?_ | refine dk ?_ | fail)
    · refine .f1 (.inl rfl) rfl ?_
      unfold takenB
      rw [hd, hat, hcond]
      rfl
    · refine ⟨k + 1, ⟨by omega, ?_⟩, by omega, ?_⟩
      · rw [hd, hat, hcond]
        rfl
      · exact lq
    · exfalso
      simp at hcond
      omega
  case neg =>
    have hno : c.ss.any (fun s => s.tenant == tenant && s.gate == ip) = false := by rw [hd, List.drop_of_length_le (by omega)]; rfl
    repeat' (first | refine X.loc ?_ | refine nx ?_ | refine cb ?_ ?_ | (refine cc ?_ ?_ <;> intro hcond) | refine rb ?_ | refine nd ?_ | refine dk ?_ | fail)
    · exfalso
      simp at hcond
      omega
    refine WP.loop (ι := Nat) (fun k => ⟨[(1, .fv (.int .i64 tenant)), (2, .fv (.int .i64 ip)), (3, .optr 3 0), (8, .fv (.int .i64 k))], [(3, .box 26 ((encCf c).map .fv))]⟩)
      (fun k => k ≤ c.ps.length ∧ c.ps.any (fun p => p.ip == ip && tenantAt c.ss p.sw == tenant) = (c.ps.drop k).any (fun p => p.ip == ip && tenantAt c.ss p.sw == tenant)) (fun k => c.ps.length - k) 0 ⟨by omega, rfl⟩ ?_ ?_
    · exact lq
    rintro j ⟨hj, hjd⟩
    try dsimp only
    by_cases hjlt : j < c.ps.length
    case pos =>
      obtain ⟨x, hx⟩ : ∃ x, c.ps[j]? = some x := ⟨_, List.getElem?_eq_getElem hjlt⟩
      have hat := any_at (p := fun p : Po => p.ip == ip && tenantAt c.ss p.sw == tenant) hx
      repeat' (first | (apply X.loE; (· exact aR); (· first | (exact .eff (.idxS rfl rfl rfl encPo_len hx)) | exact .callL rfl rfl rfl (tenantOf_T c x hl) rfl | exact bl (tenantOf_T c x hl))) | refine X.loc ?_ | refine nx ?_ | refine cb ?_ ?_ | (refine cc ?_ ?_ <;> intro hcond) | (apply X.gsE; (· exact aR); (· exact aV); (· exact aW); (· intro hc; first | (exact .eff (.idxS rfl rfl rfl encPo_len hx)) | exact .callG rfl rfl rfl (tenantOf_T c x hl) rfl | exact bg (tenantOf_T c x hl)); (· exact aR)) | refine rb ?_ | refine nd ?_ | refine dk ?_ | fail)
      · refine .f1 (.inl rfl) rfl ?_
        unfold takenB
        rw [hno, hjd, hat, hcond]
        rfl
      · refine ⟨j + 1, ⟨by omega, ?_⟩, by omega, ?_⟩
        · rw [hjd, hat, hcond]
          rfl
        · exact lq
      · exfalso
        simp at hcond
        omega
    case neg =>
      repeat' (first | refine X.loc ?_ | refine nx ?_ | refine cb ?_ ?_ | (refine cc ?_ ?_ <;> intro hcond) | refine rb ?_ | refine nd ?_ | refine dk ?_ | fail)
      · exfalso
        simp at hcond
        omega
      · refine .f1 (.inl rfl) rfl ?_
        unfold takenB
        rw [hno, hjd, List.drop_of_length_le (by omega)]
        rfl
theorem switchFault_T (c : Cf) (s : Sw) (hl : c.Small) : Fun Tryz.prog 79 [.agg ((encCf c).map .fv), .agg ((encSw s).map .fv)] (.fv (.int .i64 (swFault c s))) := by
  have hsec : (c.ss.any (fun x => x.id == s.id) || (decide (s.gate > 0) && takenB c s.tenant s.gate)) = true ↔ (c.ss.any (fun x => x.id == s.id) = true ∨ (0 < s.gate ∧ takenB c s.tenant s.gate = true)) := by
    rw [Bool.or_eq_true, Bool.and_eq_true, decide_eq_true_iff]
  refine Fun.body tbl_ok Tryz.func79 rfl (by kernel_rfl) rfl rfl rfl ?_
  repeat' (first | (apply X.loE; (· exact aR); (· first | exact .callL rfl rfl rfl (by first | exact in_T _ _ _ | exact switchOf_T c _ hl | exact isTaken_T c _ _ hl) rfl | exact bl (in_T _ _ _) | exact bl (switchOf_T c _ hl) | exact bl (isTaken_T c _ _ hl))) | refine X.loc ?_ | refine nx ?_ | refine cb ?_ ?_ | (refine cc ?_ ?_ <;> intro hcond) | (apply X.gsE; (· exact aR); (· exact aV); (· exact aW); (· intro hc; first | exact .callG rfl rfl rfl (by first | exact in_T _ _ _ | exact switchOf_T c _ hl | exact isTaken_T c _ _ hl) rfl | exact bg (in_T _ _ _) | exact bg (switchOf_T c _ hl) | exact bg (isTaken_T c _ _ hl)); (· exact aR)) | refine rb ?_ | refine nd ?_ | refine dk ?_ | fail)
  · refine .f1 (.inl rfl) rfl ?_
    rw [swFault, if_pos (by simpa [or_assoc] using hcond)]
  all_goals (have h1 : ¬ (inR s.id 1 500 = false ∨ inR s.tenant 1 9 = false ∨ inR s.gate 0 65535 = false) := by simpa [and_assoc] using ‹(!inR s.id 1 500 || !inR s.tenant 1 9 || !inR s.gate 0 65535) = false›)
  · refine .f1 (.inl rfl) rfl ?_
    rw [swFault, if_neg h1, if_pos (hsec.1 hcond)]
  · refine .f1 (.inl rfl) rfl ?_
    rename_i h2
    rw [swFault, if_neg h1, if_neg (fun h => by rw [hsec.2 h] at h2; cases h2), if_pos (by simp at hcond; omega)]
  · refine .f1 (.inl rfl) rfl ?_
    rename_i h2
    rw [swFault, if_neg h1, if_neg (fun h => by rw [hsec.2 h] at h2; cases h2), if_neg (by simp at hcond; omega)]
set_option maxHeartbeats 2000000 in
theorem portFault_T (c : Cf) (p : Po) (hl : c.Small) : Fun Tryz.prog 80 [.agg ((encCf c).map .fv), .agg ((encPo p).map .fv)] (.fv (.int .i64 (poFault c p))) := by
  have hl2 := hl.2.1
  refine Fun.body tbl_ok Tryz.func80 rfl (by kernel_rfl) rfl rfl rfl ?_
  repeat' (first | (apply X.loE; (· exact aR); (· first | exact .callL rfl rfl rfl (by first | exact in_T _ _ _ | exact switchOf_T c _ hl) rfl | exact bl (in_T _ _ _) | exact bl (switchOf_T c _ hl))) | refine X.loc ?_ | refine nx ?_ | refine cb ?_ ?_ | (refine cc ?_ ?_ <;> intro hcond) | (apply X.gsE; (· exact aR); (· exact aV); (· exact aW); (· intro hc; first | exact .callG rfl rfl rfl (by first | exact in_T _ _ _ | exact switchOf_T c _ hl) rfl | exact bg (in_T _ _ _) | exact bg (switchOf_T c _ hl)); (· exact aR)) | refine rb ?_ | refine nd ?_ | refine dk ?_ | fail)
  · refine .f1 (.inl rfl) rfl ?_
    rw [poFault, if_pos (by simpa [or_assoc] using hcond)]
  all_goals (have h1 : ¬ (inR p.id 1 999 = false ∨ inR p.mac 1 59999 = false ∨ inR p.ip 1 65535 = false ∨ inR p.ch (-1) 5 = false) := by simpa [and_assoc] using ‹(!inR p.id 1 999 || !inR p.mac 1 59999 || !inR p.ip 1 65535 || !inR p.ch (-1) 5) = false›)
  · refine .f1 (.inl rfl) rfl ?_
    rw [poFault, if_neg h1, if_pos (by simpa only [Bool.not_eq_true'] using hcond)]
  have h2 : ¬ (c.ss.any (fun x => x.id == p.sw) = false) := by simpa only [Bool.not_eq_false', Bool.not_eq_false] using hcond
  clear hcond
  refine WP.loop (ι := Nat) (fun k => ⟨[(2, .optr 2 0), (3, .optr 3 0), (5, .optr 5 0), (7, .fv (.int .i64 k))], [(2, .box 26 ((encCf c).map .fv)), (3, .box 69 ((encPo p).map .fv)), (5, .box 44 ((encSw (swOf c.ss p.sw)).map .fv))]⟩)
    (fun k => k ≤ c.ps.length ∧ c.ps.any (fun q => q.id == p.id || (q.sw == p.sw && q.mac == p.mac)) = (c.ps.drop k).any (fun q => q.id == p.id || (q.sw == p.sw && q.mac == p.mac))) (fun k => c.ps.length - k) 0 ⟨by omega, rfl⟩ ?_ ?_
  · exact lq
  rintro k ⟨hk, hd⟩
  try dsimp only
  by_cases hlt : k < c.ps.length
  case pos =>
    obtain ⟨x, hx⟩ : ∃ x, c.ps[k]? = some x := ⟨_, List.getElem?_eq_getElem hlt⟩
    have hat := any_at (p := fun q : Po => q.id == p.id || (q.sw == p.sw && q.mac == p.mac)) hx
    repeat' (first | (apply X.loE; (· exact aR); (· first | (exact .eff (.idxS rfl rfl rfl encPo_len hx)))) | refine X.loc ?_ | refine nx ?_ | refine cb ?_ ?_ | (refine cc ?_ ?_ <;> intro hcond) | (apply X.gsE; (· exact aR); (· exact aV); (· exact aW); (· intro hc; first | (exact .eff (.idxS rfl rfl rfl encPo_len hx))); (· exact aR)) | refine rb ?_ | refine nd ?_ | refine dk ?_ | fail)
    · refine .f1 (.inl rfl) rfl ?_
      rw [poFault, if_neg h1, if_neg h2, if_pos (by rw [hd, hat, hcond]; rfl)]
    · refine ⟨k + 1, ⟨by omega, ?_⟩, by omega, ?_⟩
      · rw [hd, hat, hcond]
        rfl
      · exact lq
    · exfalso
      simp at hcond
      omega
  case neg =>
    have h3 : ¬ (c.ps.any (fun q => q.id == p.id || (q.sw == p.sw && q.mac == p.mac)) = true) := by rw [hd, List.drop_of_length_le (by omega)]; simp
    repeat' (first | (apply X.loE; (· exact aR); (· first | exact .callL rfl rfl rfl (isTaken_T c _ _ hl) rfl | exact bl (isTaken_T c _ _ hl))) | refine X.loc ?_ | refine nx ?_ | refine cb ?_ ?_ | (refine cc ?_ ?_ <;> intro hcond) | (apply X.gsE; (· exact aR); (· exact aV); (· exact aW); (· intro hc; first | exact .callG rfl rfl rfl (isTaken_T c _ _ hl) rfl | exact bg (isTaken_T c _ _ hl)); (· exact aR)) | refine rb ?_ | refine nd ?_ | refine dk ?_ | fail)
    · exfalso
      simp at hcond
      omega
    · refine .f1 (.inl rfl) rfl ?_
      rw [poFault, if_neg h1, if_neg h2, if_neg h3, ← swOf_tenant, if_pos hcond]
    · refine .f1 (.inl rfl) rfl ?_
      rename_i h4
      rw [poFault, if_neg h1, if_neg h2, if_neg h3, ← swOf_tenant, if_neg (fun h => by rw [h] at h4; cases h4), if_pos (by simp at hcond; omega)]
    · refine .f1 (.inl rfl) rfl ?_
      rename_i h4
      rw [poFault, if_neg h1, if_neg h2, if_neg h3, ← swOf_tenant, if_neg (fun h => by rw [h] at h4; cases h4), if_neg (by simp at hcond; omega)]
theorem unit_T (b : Nat) (hb : b ≤ 16) : Fun Tryz.prog 110 [.fv (.int .i64 b)] (.fv (.int .i64 (unitOf b))) := by
  refine Fun.body tbl_ok Tryz.func110 rfl (by kernel_rfl) rfl rfl rfl ?_
  repeat' (first | refine X.loc ?_ | refine nx ?_ | refine cb ?_ ?_ | (refine cc ?_ ?_ <;> intro hcond) | refine rb ?_ | refine nd ?_ | refine dk ?_ | fail)
  refine WP.loop (ι := Nat) (fun k => ⟨[(0, .fv (.int .i64 ((b : Int) - k))), (3, .fv (.int .i64 ((2 ^ (16 - k) : Nat) : Int)))], []⟩) (fun k => k ≤ b) (fun k => b - k) 0 (by omega) ?_ ?_
  · exact lq
  rintro k hk
  try dsimp only
  have hp : (2 : Nat) ^ (16 - k) ≤ 65536 := by
    have := Nat.pow_le_pow_right (n := 2) (by omega) (show 16 - k ≤ 16 by omega)
    simpa using this
  have hpz := Nat.two_pow_pos (16 - k)
  generalize hq : (2 : Nat) ^ (16 - k) = q at hp hpz
  by_cases hlt : k < b
  case pos =>
    repeat' (first | refine X.loc ?_ | refine nx ?_ | refine cb ?_ ?_ | (refine cc ?_ ?_ <;> intro hcond) | refine rb ?_ | refine nd ?_ | refine dk ?_ | fail)
    · refine ⟨k + 1, by omega, by omega, ?_⟩
      refine St.le_of ?_ ?_ <;> (repeat' (first | exact trivial | refine ⟨⟨_, rfl, .refl _⟩, ?_⟩ | refine ⟨⟨_, rfl, .any _⟩, ?_⟩ | refine ⟨⟨_, rfl, .of_eq ?_⟩, ?_⟩ | refine ⟨⟨_, rfl, fun _ _ _ _ h => h⟩, ?_⟩ | fail))
      · congr 2
        omega
      · rw [show 16 - k = (16 - (k + 1)) + 1 from by omega, Nat.pow_succ] at hq
        generalize (2 : Nat) ^ (16 - (k + 1)) = r at hq ⊢
        congr 2
        omega
    · exfalso
      simp at hcond
      omega
  case neg =>
    repeat' (first | refine X.loc ?_ | refine nx ?_ | refine cb ?_ ?_ | (refine cc ?_ ?_ <;> intro hcond) | refine rb ?_ | refine nd ?_ | refine dk ?_ | fail)
    · exfalso
      simp at hcond
      omega
    · refine .f1 (.inl rfl) rfl ?_
      have : k = b := by omega
      subst this
      rw [unitOf, Int.toNat_natCast, ← hq]
      simp
set_option maxHeartbeats 2000000 in
theorem aclFault_T (c : Cf) (a : Ac) (hl : c.Small) : Fun Tryz.prog 81 [.agg ((encCf c).map .fv), .agg ((encAc a).map .fv)] (.fv (.int .i64 (acFault c a))) := by
  refine Fun.body tbl_ok Tryz.func81 rfl (by kernel_rfl) rfl rfl rfl ?_
  repeat' (first | (apply X.loE; (· exact aR); (· first | exact .callL rfl rfl rfl (in_T _ _ _) rfl | exact bl (in_T _ _ _))) | refine X.loc ?_ | refine nx ?_ | refine cb ?_ ?_ | (refine cc ?_ ?_ <;> intro hcond) | (apply X.gsE; (· exact aR); (· exact aV); (· exact aW); (· intro hc; first | exact .callG rfl rfl rfl (in_T _ _ _) rfl | exact bg (in_T _ _ _)); (· exact aR)) | refine rb ?_ | refine dk ?_ | fail)
  · refine .f1 (.inl rfl) rfl ?_
    rw [acFault, if_pos (by simpa [or_assoc] using hcond)]
  have h1 : ¬ (inR a.prio 0 1000 = false ∨ inR a.src 0 65535 = false ∨ inR a.dst 0 65535 = false ∨ inR a.srcBits 0 16 = false ∨ inR a.dstBits 0 16 = false ∨ inR a.port (-1) 65535 = false) := by simpa [and_assoc] using hcond
  have g1 := inR_iff.1 (show inR a.src 0 65535 = true by simp_all)
  have g2 := inR_iff.1 (show inR a.dst 0 65535 = true by simp_all)
  have g3 := inR_iff.1 (show inR a.srcBits 0 16 = true by simp_all)
  have g4 := inR_iff.1 (show inR a.dstBits 0 16 = true by simp_all)
  obtain ⟨sb, hsb⟩ := Int.eq_ofNat_of_zero_le g3.1
  obtain ⟨db, hdb⟩ := Int.eq_ofNat_of_zero_le g4.1
  have m1 := unit_T sb (by omega)
  have m2 := unit_T db (by omega)
  rw [← hsb] at m1
  rw [← hdb] at m2
  have p1 : 0 < unitOf a.srcBits := by unfold unitOf; exact Int.pow_pos (by omega)
  have p2 : 0 < unitOf a.dstBits := by unfold unitOf; exact Int.pow_pos (by omega)
  have hsec : (a.src % unitOf a.srcBits != 0 || a.dst % unitOf a.dstBits != 0) = true ↔ (a.src % unitOf a.srcBits ≠ 0 ∨ a.dst % unitOf a.dstBits ≠ 0) := by
    rw [Bool.or_eq_true, bne_iff_ne, bne_iff_ne]
  clear hcond
  repeat' (first | (apply X.loE; (· exact aR); (· first | exact .callL rfl rfl rfl (by first | exact m1 | exact m2 | exact switchOf_T c _ hl) rfl | exact bl (m1) | exact bl (m2) | exact bl (switchOf_T c _ hl))) | refine X.loc ?_ | refine nx ?_ | refine cb ?_ ?_ | (refine cc ?_ ?_ <;> intro hcond) | (apply X.gsE; (· exact aR); (· exact aV); (· exact aW); (· intro hc; first | exact .callG rfl rfl rfl (by first | exact m1 | exact m2 | exact switchOf_T c _ hl) rfl | exact bg (m1) | exact bg (m2) | exact bg (switchOf_T c _ hl)); (· exact aR)) | refine rb ?_ | refine nd ?_ | refine dk ?_ | fail)
  · refine .f1 (.inl rfl) rfl ?_
    rw [acFault, if_neg h1, if_pos (hsec.1 hcond)]
  · refine .f1 (.inl rfl) rfl ?_
    rename_i h2
    rw [acFault, if_neg h1, if_neg (fun h => by rw [hsec.2 h] at h2; cases h2), if_pos (by simpa only [Bool.not_eq_true'] using hcond)]
  · refine .f1 (.inl rfl) rfl ?_
    rename_i h2 h3
    rw [acFault, if_neg h1, if_neg (fun h => by rw [hsec.2 h] at h2; cases h2), if_neg (by simpa only [Bool.not_eq_false', Bool.not_eq_false] using h3), if_pos (by simp at hcond; omega)]
  · refine .f1 (.inl rfl) rfl ?_
    rename_i h2 h3
    rw [acFault, if_neg h1, if_neg (fun h => by rw [hsec.2 h] at h2; cases h2), if_neg (by simpa only [Bool.not_eq_false', Bool.not_eq_false] using h3), if_neg (by simp at hcond; omega)]
set_option maxHeartbeats 4000000 in
theorem confMay_T (c : Cf) (hl : c.Small) : Fun Tryz.prog 47 [.agg ((encCf c).map .fv)] (.fv (.bool (cfMay c))) := by
  have hl1 := hl.1
  have hl2 := hl.2.1
  have hl3 := hl.2.2
  refine Fun.body tbl_ok Tryz.func47 rfl (by kernel_rfl) rfl rfl rfl ?_
  repeat' (first | refine X.loc ?_ | refine nx ?_ | refine cb ?_ ?_ | (refine cc ?_ ?_ <;> intro hcond) | refine rb ?_ | refine nd ?_ | refine dk ?_ | fail)
  refine WP.loop (ι := Nat) (fun k => ⟨[(1, .optr 1 0), (3, .optr 3 0), (4, .fv (.int .i64 k))], [ (1, .box 26 ((encCf c).map .fv)), (3, .box 26 [.osl 900, .nil, .nil]), (900, .row 44 3 (c.ss.take k).length (((c.ss.take k).flatMap encSw).map .fv))]⟩)
    (fun k => k ≤ c.ss.length ∧ k ≤ 12 ∧ swsMay ⟨[], [], []⟩ c.ss = swsMay ⟨c.ss.take k, [], []⟩ (c.ss.drop k)) (fun k => c.ss.length - k) 0 ⟨by omega, by omega, rfl⟩ ?_ ?_
  · exact tq [(900, .nil)] []
  rintro k ⟨hk, hk12, hd⟩
  try dsimp only
  have hlen : (c.ss.take k).length ≤ 12 := by simp; omega
  by_cases hlt : k < c.ss.length
  case pos =>
    obtain ⟨x, hx⟩ : ∃ x, c.ss[k]? = some x := ⟨_, List.getElem?_eq_getElem hlt⟩
    have hat := sws_at (ps := []) (acs := []) hx
    have hsm : Cf.Small ⟨c.ss.take k, [], []⟩ := by have := cut_small hl k 0 0; simpa using this
    repeat' (first | (apply X.loE; (· exact aR); (· first | (exact .eff (.idxS rfl rfl rfl encSw_len hx)) | exact .callL rfl rfl rfl (switchFault_T ⟨c.ss.take k, [], []⟩ x hsm) rfl | exact bl (switchFault_T ⟨c.ss.take k, [], []⟩ x hsm))) | refine X.loc ?_ | refine nx ?_ | refine cb ?_ ?_ | (refine cc ?_ ?_ <;> intro hcond) | (apply X.gsE; (· exact aR); (· exact aV); (· exact aW); (· intro hc; first | (exact .eff (.idxS rfl rfl rfl encSw_len hx)) | exact .callG rfl rfl rfl (switchFault_T ⟨c.ss.take k, [], []⟩ x hsm) rfl | exact bg (switchFault_T ⟨c.ss.take k, [], []⟩ x hsm)); (· exact aR)) | refine rb ?_ | refine nd ?_ | refine dk ?_ | fail)
    · refine .f1 (.inl rfl) rfl ?_
      have : cfMay c = false := by
        unfold cfMay
        rw [hd, hat, decide_eq_false (int_ne hcond)]
        rfl
      rw [this]
    · have h0 := int_eq hcond
      have := swFault_lt h0
      refine ⟨k + 1, ⟨by omega, by simp at this; omega, ?_⟩, by omega, ?_⟩
      · rw [hd, hat, decide_eq_true h0]
        rfl
      · skip
        refine St.to [(900, .id 31)] [] rfl rfl ?_ ?_ <;> (repeat' (first | exact tA | refine t1 ?_ | exact tB | refine t2 ?_ ?_ | refine t3 ?_ | refine t4 ?_ ?_ | refine .ofEq ?_ | refine OB.To.cut rfl rfl ?_ ?_ ?_ ?_ | refine OB.To.box rfl rfl ?_ | refine ⟨⟨_, rfl, ?_⟩, ?_⟩ | refine ⟨?_, ?_⟩ | fail))
        all_goals first | exact (take_len hx).symm | (rw [take_flat hx, List.map_append]; rfl)
    · exfalso
      simp at hcond
      omega
  case neg =>
    have hek : k = c.ss.length := by omega
    subst hek
    rw [List.drop_of_length_le (Nat.le_refl _)] at hd
    have hsw : swsMay ⟨[], [], []⟩ c.ss = true := hd
    repeat' (first | refine X.loc ?_ | refine nx ?_ | refine cb ?_ ?_ | (refine cc ?_ ?_ <;> intro hcond) | refine rb ?_ | refine nd ?_ | refine dk ?_ | fail)
    · exfalso
      simp at hcond
    refine WP.loop (ι := Nat) (fun k => ⟨[(1, .optr 1 0), (3, .optr 3 0), (5, .fv (.int .i64 k))], [ (1, .box 26 ((encCf c).map .fv)), (3, .box 26 [.osl 900, .osl 901, .nil]), (900, .row 44 3 c.ss.length ((c.ss.flatMap encSw).map .fv)), (901, .row 69 5 (c.ps.take k).length (((c.ps.take k).flatMap encPo).map .fv))]⟩)
      (fun k => k ≤ c.ps.length ∧ k ≤ 40 ∧ Cf.Wf ⟨c.ss, c.ps.take k, []⟩ ∧ posMay ⟨c.ss, [], []⟩ c.ps = posMay ⟨c.ss, c.ps.take k, []⟩ (c.ps.drop k)) (fun k => c.ps.length - k) 0 ⟨by omega, by omega, (by intro p hp; simp at hp), rfl⟩ ?_ ?_
    · skip
      refine St.to [(901, .nil)] [] rfl rfl ?_ ?_ <;> (repeat' (first | exact tA | refine t1 ?_ | exact tB | refine t2 ?_ ?_ | refine t3 ?_ | refine t4 ?_ ?_ | refine .ofEq ?_ | refine OB.To.cut rfl rfl ?_ ?_ ?_ ?_ | refine OB.To.box rfl rfl ?_ | refine ⟨⟨_, rfl, ?_⟩, ?_⟩ | refine ⟨?_, ?_⟩ | fail))
      all_goals rw [List.take_of_length_le (Nat.le_refl _)]
    rintro k ⟨hk, hk40, hwf, hd⟩
    try dsimp only
    have hlen : (c.ps.take k).length ≤ 40 := by simp; omega
    by_cases hlt : k < c.ps.length
    case pos =>
      obtain ⟨x, hx⟩ : ∃ x, c.ps[k]? = some x := ⟨_, List.getElem?_eq_getElem hlt⟩
      have hat := pos_at (ss := c.ss) (acs := []) hx
      have hsm : Cf.Small ⟨c.ss, c.ps.take k, []⟩ := by have := cut_small hl c.ss.length k 0; simpa using this
      repeat' (first | (apply X.loE; (· exact aR); (· first | (exact .eff (.idxS rfl rfl rfl encPo_len hx)) | exact .callL rfl rfl rfl (portFault_T ⟨c.ss, c.ps.take k, []⟩ x hsm) rfl | exact bl (portFault_T ⟨c.ss, c.ps.take k, []⟩ x hsm))) | refine X.loc ?_ | refine nx ?_ | refine cb ?_ ?_ | (refine cc ?_ ?_ <;> intro hcond) | (apply X.gsE; (· exact aR); (· exact aV); (· exact aW); (· intro hc; first | (exact .eff (.idxS rfl rfl rfl encPo_len hx)) | exact .callG rfl rfl rfl (portFault_T ⟨c.ss, c.ps.take k, []⟩ x hsm) rfl | exact bg (portFault_T ⟨c.ss, c.ps.take k, []⟩ x hsm)); (· exact aR)) | refine rb ?_ | refine nd ?_ | refine dk ?_ | fail)
      · refine .f1 (.inl rfl) rfl ?_
        have : cfMay c = false := by
          unfold cfMay
          rw [hd, hat, decide_eq_false (int_ne hcond), hsw]
          rfl
        rw [this]
      · have h0 := int_eq hcond
        have := poFault_lt h0
        refine ⟨k + 1, ⟨by omega, by have := this.1; simp at this; omega, ?_, ?_⟩, by omega, ?_⟩
        · exact take_all (p := fun p : Po => c.ss.any (fun x => x.id == p.sw) = true) hx hwf this.2
        · rw [hd, hat, decide_eq_true h0]
          rfl
        · skip
          refine St.to [(901, .id 56)] [] rfl rfl ?_ ?_ <;> (repeat' (first | exact tA | refine t1 ?_ | exact tB | refine t2 ?_ ?_ | refine t3 ?_ | refine t4 ?_ ?_ | refine .ofEq ?_ | refine OB.To.cut rfl rfl ?_ ?_ ?_ ?_ | refine OB.To.box rfl rfl ?_ | refine ⟨⟨_, rfl, ?_⟩, ?_⟩ | refine ⟨?_, ?_⟩ | fail))
          all_goals first | exact (take_len hx).symm | (rw [take_flat hx, List.map_append]; rfl)
      · exfalso
        simp at hcond
        omega
    case neg =>
      have hek : k = c.ps.length := by omega
      subst hek
      rw [List.drop_of_length_le (Nat.le_refl _)] at hd
      have hpo : posMay ⟨c.ss, [], []⟩ c.ps = true := hd
      repeat' (first | refine X.loc ?_ | refine nx ?_ | refine cb ?_ ?_ | (refine cc ?_ ?_ <;> intro hcond) | refine rb ?_ | refine nd ?_ | refine dk ?_ | fail)
      · exfalso
        simp at hcond
      refine WP.loop (ι := Nat) (fun k => ⟨[(1, .optr 1 0), (3, .optr 3 0), (6, .fv (.int .i64 k))], [ (1, .box 26 ((encCf c).map .fv)), (3, .box 26 [.osl 900, .osl 901, .osl 902]), (900, .row 44 3 c.ss.length ((c.ss.flatMap encSw).map .fv)), (901, .row 69 5 c.ps.length ((c.ps.flatMap encPo).map .fv)), (902, .row 38 9 (c.acs.take k).length (((c.acs.take k).flatMap encAc).map .fv))]⟩)
        (fun k => k ≤ c.acs.length ∧ k ≤ 40 ∧ acsMay ⟨c.ss, c.ps, []⟩ c.acs = acsMay ⟨c.ss, c.ps, c.acs.take k⟩ (c.acs.drop k)) (fun k => c.acs.length - k) 0 ⟨by omega, by omega, rfl⟩ ?_ ?_
      · skip
        refine St.to [(902, .nil)] [] rfl rfl ?_ ?_ <;> (repeat' (first | exact tA | refine t1 ?_ | exact tB | refine t2 ?_ ?_ | refine t3 ?_ | refine t4 ?_ ?_ | refine .ofEq ?_ | refine OB.To.cut rfl rfl ?_ ?_ ?_ ?_ | refine OB.To.box rfl rfl ?_ | refine ⟨⟨_, rfl, ?_⟩, ?_⟩ | refine ⟨?_, ?_⟩ | fail))
        all_goals rw [List.take_of_length_le (Nat.le_refl _)]
      rintro k ⟨hk, hk40, hd⟩
      try dsimp only
      have hlen : (c.acs.take k).length ≤ 40 := by simp; omega
      by_cases hlt : k < c.acs.length
      case pos =>
        obtain ⟨x, hx⟩ : ∃ x, c.acs[k]? = some x := ⟨_, List.getElem?_eq_getElem hlt⟩
        have hat := acs_at (ss := c.ss) (ps := c.ps) hx
        have hsm : Cf.Small ⟨c.ss, c.ps, c.acs.take k⟩ := by have := cut_small hl c.ss.length c.ps.length k; simpa using this
        repeat' (first | (apply X.loE; (· exact aR); (· first | (exact .eff (.idxS rfl rfl rfl encAc_len hx)) | exact .callL rfl rfl rfl (aclFault_T ⟨c.ss, c.ps, c.acs.take k⟩ x hsm) rfl | exact bl (aclFault_T ⟨c.ss, c.ps, c.acs.take k⟩ x hsm))) | refine X.loc ?_ | refine nx ?_ | refine cb ?_ ?_ | (refine cc ?_ ?_ <;> intro hcond) | (apply X.gsE; (· exact aR); (· exact aV); (· exact aW); (· intro hc; first | (exact .eff (.idxS rfl rfl rfl encAc_len hx)) | exact .callG rfl rfl rfl (aclFault_T ⟨c.ss, c.ps, c.acs.take k⟩ x hsm) rfl | exact bg (aclFault_T ⟨c.ss, c.ps, c.acs.take k⟩ x hsm)); (· exact aR)) | refine rb ?_ | refine nd ?_ | refine dk ?_ | fail)
        · refine .f1 (.inl rfl) rfl ?_
          have : cfMay c = false := by
            unfold cfMay
            rw [hd, hat, decide_eq_false (int_ne hcond), hsw, hpo]
            rfl
          rw [this]
        · have h0 := int_eq hcond
          have := acFault_lt h0
          refine ⟨k + 1, ⟨by omega, by simp at this; omega, ?_⟩, by omega, ?_⟩
          · rw [hd, hat, decide_eq_true h0]
            rfl
          · skip
            refine St.to [(902, .id 81)] [] rfl rfl ?_ ?_ <;> (repeat' (first | exact tA | refine t1 ?_ | exact tB | refine t2 ?_ ?_ | refine t3 ?_ | refine t4 ?_ ?_ | refine .ofEq ?_ | refine OB.To.cut rfl rfl ?_ ?_ ?_ ?_ | refine OB.To.box rfl rfl ?_ | refine ⟨⟨_, rfl, ?_⟩, ?_⟩ | refine ⟨?_, ?_⟩ | fail))
            all_goals first | exact (take_len hx).symm | (rw [take_flat hx, List.map_append]; rfl)
        · exfalso
          simp at hcond
          omega
      case neg =>
        have hek : k = c.acs.length := by omega
        subst hek
        rw [List.drop_of_length_le (Nat.le_refl _)] at hd
        have hac : acsMay ⟨c.ss, c.ps, []⟩ c.acs = true := hd
        have hall : cfMay c = true := by
          unfold cfMay
          rw [hsw, hpo, hac]
          rfl
        repeat' (first | refine X.loc ?_ | refine nx ?_ | refine cb ?_ ?_ | (refine cc ?_ ?_ <;> intro hcond) | refine rb ?_ | refine nd ?_ | refine dk ?_ | fail)
        · exfalso
          simp at hcond
        · refine .f1 (.inl rfl) rfl ?_
          rw [hall]
theorem read5 {f : Fr} {k : Nat} (h : k < 5) : readA tbl 3 ((k : Int).toNat * 1) [.fv (.int .i64 f.dst), .fv (.int .i64 f.src), .fv (.int .i64 f.ipSrc), .fv (.int .i64 f.ipDst), .fv (.int .i64 f.port)] = some (.fv (.int .i64 (l5 f k))) := by
  rw [Int.toNat_natCast]
  match k, h with
  | 0, _ | 1, _ | 2, _ | 3, _ | 4, _ => rfl
  | k + 5, h => omega
theorem w5_at {f : Fr} {k : Nat} (h : k < 5) : w5 f k = (word (l5 f k) && w5 f (k + 1)) := by
  match k, h with
  | 0, _ | 1, _ | 2, _ | 3, _ | 4, _ => rfl
  | k + 5, h => omega
theorem frameFault_r (f : Fr) : frameFault f = if (!inR f.kind 1 3) = true then 3 else if w5 f 0 = false then 2 else if (!inR f.ttl 0 255) = true then 2 else if decide ((f.body.size : Int) > 40) = true then 1
    else if (f.kind != 3 && (decide (f.ttl > 0) || decide (f.port > 0) || decide ((f.body.size : Int) > 0))) = true then 4 else 0 := by
  have hw : w5 f 0 = (word f.dst && (word f.src && (word f.ipSrc && (word f.ipDst && (word f.port && true))))) := rfl
  unfold frameFault
  by_cases h1 : f.kind < 1 ∨ 3 < f.kind
  · have : inR f.kind 1 3 = false := inR_not.2 (by omega)
    rw [if_pos h1, this]
    rfl
  have h1' : inR f.kind 1 3 = true := inR_iff.2 (by omega)
  rw [if_neg h1, if_neg (show ¬ ((!inR f.kind 1 3) = true) by rw [h1']; simp)]
  by_cases h2 : w5 f 0 = false
  · have hL : word f.dst = false ∨ word f.src = false ∨ word f.ipSrc = false ∨ word f.ipDst = false ∨ word f.port = false ∨ f.ttl < 0 ∨ 255 < f.ttl := by
      rw [hw] at h2
      cases e1 : word f.dst
      · exact .inl rfl
      cases e2 : word f.src
      · exact .inr (.inl rfl)
      cases e3 : word f.ipSrc
      · exact .inr (.inr (.inl rfl))
      cases e4 : word f.ipDst
      · exact .inr (.inr (.inr (.inl rfl)))
      cases e5 : word f.port
      · exact .inr (.inr (.inr (.inr (.inl rfl))))
      rw [e1, e2, e3, e4, e5] at h2
      cases h2
    rw [if_pos hL, if_pos h2]
  have h2' : w5 f 0 = true := by simpa using h2
  rw [hw] at h2'
  simp only [Bool.and_eq_true] at h2'
  obtain ⟨a1, a2, a3, a4, a5, _⟩ := h2'
  rw [if_neg h2]
  by_cases h3 : f.ttl < 0 ∨ 255 < f.ttl
  · have : inR f.ttl 0 255 = false := inR_not.2 (by omega)
    rw [if_pos (show word f.dst = false ∨ word f.src = false ∨ word f.ipSrc = false ∨ word f.ipDst = false ∨ word f.port = false ∨ f.ttl < 0 ∨ 255 < f.ttl by rcases h3 with h | h <;> simp [h]), if_pos (show (!inR f.ttl 0 255) = true by rw [this]; rfl)]
  have h3' : inR f.ttl 0 255 = true := inR_iff.2 (by omega)
  rw [if_neg (show ¬ (word f.dst = false ∨ word f.src = false ∨ word f.ipSrc = false ∨ word f.ipDst = false ∨ word f.port = false ∨ f.ttl < 0 ∨ 255 < f.ttl) by rw [a1, a2, a3, a4, a5]; simp; omega), if_neg (show ¬ ((!inR f.ttl 0 255) = true) by rw [h3']; simp)]
  have hp := word_iff.1 a5
  have e3 : (40 < f.body.size) = (decide ((f.body.size : Int) > 40) = true) := by simp; omega
  have e4 : (f.kind ≠ 3 ∧ (f.ttl ≠ 0 ∨ f.port ≠ 0 ∨ f.body.size ≠ 0)) = ((f.kind != 3 && (decide (f.ttl > 0) || decide (f.port > 0) || decide ((f.body.size : Int) > 0))) = true) := by
    simp only [Bool.and_eq_true, Bool.or_eq_true, bne_iff_ne, ne_eq, decide_eq_true_eq, eq_iff_iff]
    omega
  simp only [e3, e4]
set_option maxHeartbeats 2000000 in
theorem frameFault_T (f : Fr) : Fun Tryz.prog 49 [.agg ((encFr f).map .fv)] (.fv (.int .i64 (frameFault f))) := by
  have hb := frameFault_r f
  refine Fun.body tbl_ok Tryz.func49 rfl (by kernel_rfl) rfl rfl rfl ?_
  repeat' (first | (apply X.loE; (· exact aR); (· first | exact .callL rfl rfl rfl (in_T _ _ _) rfl | exact bl (in_T _ _ _))) | refine X.loc ?_ | refine nx ?_ | refine cb ?_ ?_ | (refine cc ?_ ?_ <;> intro hcond) | (apply X.gsE; (· exact aR); (· exact aV); (· exact aW); (· intro hc; first | exact .callG rfl rfl rfl (in_T _ _ _) rfl | exact bg (in_T _ _ _)); (· exact aR)) | refine rb ?_ | refine nd ?_ | refine dk ?_ | fail)
  · refine .f1 (.inl rfl) rfl ?_
    rw [hb, if_pos hcond]
  rw [if_neg (by rw [hcond]; simp)] at hb
  clear hcond
  refine WP.loop (ι := Nat) (fun k => ⟨[(1, .optr 1 0), (3, .osl 900), (4, .fv (.int .i64 k))], [(1, .box 28 ((encFr f).map .fv)), (900, .row 3 1 5 [.fv (.int .i64 f.dst), .fv (.int .i64 f.src), .fv (.int .i64 f.ipSrc), .fv (.int .i64 f.ipDst), .fv (.int .i64 f.port)])]⟩) (fun k => k ≤ 5 ∧ w5 f 0 = w5 f k) (fun k => 5 - k) 0 ⟨by omega, rfl⟩ ?_ ?_
  · exact tq [(900, .id 19)] []
  rintro k ⟨hk, hd⟩
  try dsimp only
  by_cases hlt : k < 5
  case neg =>
    have hek : k = 5 := by omega
    subst hek
    have hw : w5 f 0 = true := hd
    rw [hw, if_neg (by simp)] at hb
    repeat' (first | (apply X.loE; (· exact aR); (· first | exact .callL rfl rfl rfl (in_T _ _ _) rfl | exact bl (in_T _ _ _))) | refine X.loc ?_ | refine nx ?_ | refine cb ?_ ?_ | (refine cc ?_ ?_ <;> intro hcond) | (apply X.gsE; (· exact aR); (· exact aV); (· exact aW); (· intro hc; first | exact .callG rfl rfl rfl (in_T _ _ _) rfl | exact bg (in_T _ _ _)); (· exact aR)) | refine rb ?_ | refine nd ?_ | refine dk ?_ | fail)
    all_goals
      refine .f1 (.inl rfl) rfl ?_
      rw [hb]
      simp only [*]
      rfl
  case pos =>
    have hat := w5_at (f := f) hlt
    repeat' (first | (apply X.loE; (· exact aR); (· first | (exact .eff (.loadO rfl rfl (read5 hlt))) | exact .callL rfl rfl rfl (in_T _ _ _) rfl | exact bl (in_T _ _ _))) | refine X.loc ?_ | refine nx ?_ | refine X.cdT ?_ | refine X.cdF ?_ | refine cb ?_ ?_ | (refine cc ?_ ?_ <;> intro hcond) | (apply X.gsE; (· exact aR); (· exact aV); (· exact aW); (· intro hc; first | (exact .eff (.loadO rfl rfl (read5 hlt))) | exact .callG rfl rfl rfl (in_T _ _ _) rfl | exact bg (in_T _ _ _)); (· exact aR)) | refine rb ?_ | refine nd ?_ | refine dk ?_ | fail)
    · refine .f1 (.inl rfl) rfl ?_
      have : w5 f 0 = false := by rw [hd, hat]; simp at hcond; rw [show word (l5 f k) = false from hcond]; rfl
      rw [hb, if_pos this]
    · refine ⟨k + 1, ⟨by omega, ?_⟩, by omega, ?_⟩
      · simp at hcond
        rw [hd, hat, show word (l5 f k) = true from hcond]
        rfl
      · exact tq [] []
theorem copyR_T (c : Cf) (hl : c.Fit) : FunO Tryz.prog 53 [.agg ((encCf c).map .fv)] [] (.agg [.osl 7, .osl 8, .osl 9]) [(7, .row 44 3 c.ss.length ((c.ss.flatMap encSw).map .fv)), (8, .row 69 5 c.ps.length ((c.ps.flatMap encPo).map .fv)), (9, .row 38 9 c.acs.length ((c.acs.flatMap encAc).map .fv))] := by
  have hl1 := hl.1
  have hl2 := hl.2.1
  have hl3 := hl.2.2
  refine FunO.bodyL tbl_ok Tryz.func53 rfl (by kernel_rfl) rfl rfl rfl ?_
  repeat' (first | refine X.loc ?_ | refine nx ?_ | refine cb ?_ ?_ | (refine cc ?_ ?_ <;> intro hcond) | refine rb ?_ | refine nd ?_ | refine dk ?_ | fail)
  refine .ofL (s' := ⟨[(2, .optr 2 0)], [(2, .box 26 [.osl 7, .osl 8, .osl 9]), (7, .row 44 3 c.ss.length ((c.ss.flatMap encSw).map .fv)), (8, .row 69 5 c.ps.length ((c.ps.flatMap encPo).map .fv)), (9, .row 38 9 c.acs.length ((c.acs.flatMap encAc).map .fv))]⟩) (by first | exact .inl rfl | exact .inr rfl) ?_ rfl rfl (by repeat' (first | exact trivial | refine ⟨⟨_, rfl, fun _ _ _ _ h => h⟩, ?_⟩))
  refine St.to [(7, .id 5), (8, .id 8), (9, .id 11)] [] rfl rfl ?_ ?_ <;> (repeat' (first | exact tA | refine t1 ?_ | exact tB | refine t2 ?_ ?_ | refine t3 ?_ | refine t4 ?_ ?_ | refine .ofEq ?_ | refine OB.To.cut rfl rfl ?_ ?_ ?_ ?_ | refine OB.To.box rfl rfl ?_ | refine ⟨⟨_, rfl, ?_⟩, ?_⟩ | refine ⟨?_, ?_⟩ | fail))
  all_goals simp
theorem portOf_T (c : Cf) (n : Int) (hl : c.Small) : Fun Tryz.prog 48 [.agg ((encCf c).map .fv), .fv (.int .i64 n)] (.tup [.agg ((encPo ((c.ps.find? fun p => p.id == n).getD po0)).map .fv), .fv (.bool (c.ps.any fun p => p.id == n))]) := by
  have hl2 := hl.2.1
  refine Fun.body tbl_ok Tryz.func48 rfl (by kernel_rfl) rfl rfl rfl ?_
  repeat' (first | refine X.loc ?_ | refine nx ?_ | refine cb ?_ ?_ | (refine cc ?_ ?_ <;> intro hcond) | refine rb ?_ | refine nd ?_ | refine dk ?_ | fail)
  refine WP.loop (ι := Nat) (fun k => ⟨[(1, .fv (.int .i64 n)), (2, .optr 2 0), (4, .optr 4 0), (6, .fv (.int .i64 k))], [(2, .box 26 ((encCf c).map .fv)), (4, .box 69 ((encPo po0).map .fv))]⟩) (fun k => k ≤ c.ps.length ∧ ∀ p ∈ c.ps.take k, (p.id == n) = false) (fun k => c.ps.length - k) 0 ⟨by omega, by simp⟩ ?_ ?_
  · exact tq [] []
  rintro k ⟨hk, hd⟩
  try dsimp only
  by_cases hlt : k < c.ps.length
  case neg =>
    rw [List.take_of_length_le (by omega)] at hd
    have e1 : (c.ps.find? fun p => p.id == n) = none := List.find?_eq_none.2 fun p hp => by simpa using hd p hp
    have e2 : (c.ps.any fun p => p.id == n) = false := List.any_eq_false.2 fun p hp => by simpa using hd p hp
    rw [e1, e2]
    repeat' (first | refine X.loc ?_ | refine nx ?_ | refine X.cdT ?_ | refine X.cdF ?_ | refine cb ?_ ?_ | (refine cc ?_ ?_ <;> intro hcond) | refine rb ?_ | refine nd ?_ | refine dk ?_ | fail)
    exact .fun (.inl rfl) rfl rfl
  case pos =>
    obtain ⟨x, hx⟩ : ∃ x, c.ps[k]? = some x := ⟨_, List.getElem?_eq_getElem hlt⟩
    by_cases hxn : x.id = n
    · have e1 : (c.ps.find? fun p => p.id == n) = some x := by
        rw [List.find?_eq_some_iff_append]
        refine ⟨by simpa using hxn, c.ps.take k, c.ps.drop (k + 1), ?_, fun p hp => by simpa using hd p hp⟩
        rw [← drop_at hx, List.take_append_drop]
      have e2 : (c.ps.any fun p => p.id == n) = true := List.any_eq_true.2 ⟨x, List.mem_of_getElem? hx, by simpa using hxn⟩
      rw [e1, e2]
      repeat' (first | (apply X.loE; (· exact aR); (· first | (exact .eff (.idxS rfl rfl rfl encPo_len hx)))) | refine X.loc ?_ | refine nx ?_ | refine X.cdT ?_ | refine X.cdF ?_ | refine cb ?_ ?_ | (refine cc ?_ ?_ <;> intro hcond) | (apply X.gsE; (· exact aR); (· exact aV); (· exact aW); (· intro hc; first | (exact .eff (.idxS rfl rfl rfl encPo_len hx))); (· exact aR)) | refine rb ?_ | refine nd ?_ | refine dk ?_ | fail)
      exact .fun (.inl rfl) rfl rfl
    · skip
      repeat' (first | (apply X.loE; (· exact aR); (· first | (exact .eff (.idxS rfl rfl rfl encPo_len hx)))) | refine X.loc ?_ | refine nx ?_ | refine X.cdT ?_ | refine X.cdF ?_ | refine cb ?_ ?_ | (refine cc ?_ ?_ <;> intro hcond) | (apply X.gsE; (· exact aR); (· exact aV); (· exact aW); (· intro hc; first | (exact .eff (.idxS rfl rfl rfl encPo_len hx))); (· exact aR)) | refine rb ?_ | refine nd ?_ | refine dk ?_ | fail)
      refine ⟨k + 1, ⟨by omega, ?_⟩, by omega, ?_⟩
      · rw [List.take_add_one, hx]
        intro p hp
        simp at hp
        rcases hp with hp | rfl
        · exact hd p hp
        · simpa using hxn
      · exact tq [] []
theorem out_step {α : Type} {l : List α} {k n : Nat} {x : α} (hx : l[k]? = some x) : (l.take (k + 1)).eraseIdx n = if n = k then (l.take k).eraseIdx n else (l.take k).eraseIdx n ++ [x] := by
  have hlt := (List.getElem?_eq_some_iff.1 hx).1
  have hlen : (l.take k).length = k := by rw [List.length_take]; omega
  rw [take_snoc hx]
  by_cases h : n = k
  · rw [if_pos h, h, List.eraseIdx_append_of_length_le (by omega), hlen, Nat.sub_self, List.eraseIdx_zero, List.tail_cons, List.append_nil, List.eraseIdx_of_length_le (by omega)]
  · rw [if_neg h]
    rcases Nat.lt_or_ge n k with h1 | h1
    · rw [List.eraseIdx_append_of_lt_length (by omega)]
    · rw [List.eraseIdx_of_length_le (by simp; omega), List.eraseIdx_of_length_le (by omega)]
def prioA (l : List Ac) (i : Int) : Int := match l[i.toNat]? with
  | some f => f.prio
  | none => 0
def bstA (l : List Ac) (q : Ac → Bool) : Nat → Int
  | 0 => -1
  | k + 1 => match l[k]? with
    | some f => if (q f && (decide (bstA l q k < 0) || decide (f.prio > prioA l (bstA l q k)))) = true then k else bstA l q k
    | none => bstA l q k
def IsA (l : List Ac) (q : Ac → Bool) (a b : Nat) (i : Int) : Prop :=
  (i = -1 ∧ ∀ j f, a ≤ j → j < b → l[j]? = some f → q f = false) ∨
  (∃ k g, i = ((k : Nat) : Int) ∧ a ≤ k ∧ k < b ∧ l[k]? = some g ∧ q g = true ∧ ∀ j f, a ≤ j → j < b → l[j]? = some f → q f = true → f.prio ≤ g.prio ∧ (j < k → f.prio < g.prio))
theorem prioA_nat {l : List Ac} {k : Nat} {g : Ac} (h : l[k]? = some g) : prioA l (k : Int) = g.prio := by
  unfold prioA
  rw [Int.toNat_natCast, h]
theorem bstA_is (l : List Ac) (q : Ac → Bool) : ∀ k, k ≤ l.length → IsA l q 0 k (bstA l q k)
  | 0, _ => .inl ⟨rfl, fun j f _ h => by omega⟩
  | k + 1, hk => by
    have ih := bstA_is l q k (by omega)
    obtain ⟨f, hf⟩ : ∃ f, l[k]? = some f := ⟨_, List.getElem?_eq_getElem (by omega)⟩
    simp only [bstA, hf]
    split
    · rename_i hc
      simp only [Bool.and_eq_true, Bool.or_eq_true, decide_eq_true_eq] at hc
      refine .inr ⟨k, f, rfl, by omega, by omega, hf, hc.1, fun j g _ hj hg hq => ?_⟩
      rcases Nat.lt_or_ge j k with hlt | hge
      · rcases ih with ⟨_, h2⟩ | ⟨m, x, h1, _, hm, hx, hqx, h2⟩
        · have := h2 j g (by omega) hlt hg
          rw [hq] at this
          cases this
        · have h3 := h2 j g (by omega) hlt hg hq
          rcases hc.2 with h4 | h4
          · omega
          · rw [h1, prioA_nat hx] at h4
            omega
      · obtain rfl : j = k := by omega
        rw [hf] at hg
        obtain rfl := Option.some.inj hg
        exact ⟨Int.le_refl _, fun h => by omega⟩
    · rename_i hc
      rcases ih with ⟨h1, h2⟩ | ⟨m, x, h1, h3, hm, hx, hqx, h2⟩
      · refine .inl ⟨h1, fun j g _ hj hg => ?_⟩
        rcases Nat.lt_or_ge j k with hlt | hge
        · exact h2 j g (by omega) hlt hg
        · obtain rfl : j = k := by omega
          rw [hf] at hg
          obtain rfl := Option.some.inj hg
          cases hq : q f with
          | false => rfl
          | true => exfalso; apply hc; simp [hq, h1]
      · refine .inr ⟨m, x, h1, h3, by omega, hx, hqx, fun j g _ hj hg hq => ?_⟩
        rcases Nat.lt_or_ge j k with hlt | hge
        · exact h2 j g (by omega) hlt hg hq
        · obtain rfl : j = k := by omega
          rw [hf] at hg
          obtain rfl := Option.some.inj hg
          refine ⟨?_, fun h => by omega⟩
          rw [hq, h1, prioA_nat hx] at hc
          simp at hc
          omega
theorem find_ix {α : Type} {r : α → Bool} {l : List α} {k : Nat} {g : α} (hk : l[k]? = some g) (hg : r g = true) (hn : ∀ j x, j < k → l[j]? = some x → r x = false) : l.find? r = some g := by
  obtain ⟨h1, h2⟩ := List.getElem?_eq_some_iff.1 hk
  refine List.find?_eq_some_iff_getElem.2 ⟨hg, k, h1, h2, fun j hj => ?_⟩
  have := hn j l[j] hj (List.getElem?_eq_getElem (by omega))
  rw [this]
  rfl
theorem find_head {α : Type} (p : α → Bool) (l : List α) : l.find? p = (l.filter p).head? := by
  induction l with
  | nil => rfl
  | cons x l ih =>
    rw [List.find?_cons, List.filter_cons]
    cases h : p x with
    | true => rw [if_pos rfl]; rfl
    | false => rw [if_neg (by decide)]; exact ih
theorem best_find {l : List Ac} {q1 q2 : Ac → Bool} {i : Int} (h : IsA l (fun a => q1 a && q2 a) 0 l.length i) : (sortA (l.filter q1)).find? q2 = if i < 0 then none else l[i.toNat]? := by
  have hs := sortA_stab (l.filter q1)
  rcases h with ⟨h1, h2⟩ | ⟨k, g, h1, _, h3, h4, h5, h6⟩
  · rw [if_pos (by omega), List.find?_eq_none]
    intro x hx hq
    obtain ⟨hx1, hx2⟩ := List.mem_filter.1 (hs.mem.1 hx)
    obtain ⟨j, hj, hj2⟩ := List.getElem_of_mem hx1
    have h3 : (q1 x && q2 x) = false := h2 j x (by omega) hj (by rw [List.getElem?_eq_getElem hj, hj2])
    rw [hx2, hq] at h3
    cases h3
  · have h5 : (q1 g && q2 g) = true := h5
    rw [if_neg (by omega), h1, Int.toNat_natCast, h4, find_head]
    have hT := hs.filter q2
    rw [List.filter_filter] at hT
    have ec : (fun a => q2 a && q1 a) = fun a => q1 a && q2 a := by funext a; rw [Bool.and_comm]
    rw [ec] at hT
    have hgm : g ∈ l.filter fun a => q1 a && q2 a := List.mem_filter.2 ⟨List.mem_of_getElem? h4, h5⟩
    have hgT := hT.mem.2 hgm
    generalize (sortA (l.filter q1)).filter q2 = T at *
    cases T with
    | nil => simp at hgT
    | cons x T =>
      have hxm := List.mem_filter.1 (hT.mem.1 (show x ∈ x :: T by simp))
      obtain ⟨j, hj, hj2⟩ := List.getElem_of_mem hxm.1
      have hxg := (h6 j x (by omega) hj (by rw [List.getElem?_eq_getElem hj, hj2]) hxm.2).1
      have hgx : g.prio ≤ x.prio := by
        rcases List.mem_cons.1 hgT with rfl | hg
        · exact Int.le_refl _
        · exact (List.pairwise_cons.1 hT.ord).1 g hg
      have hpe : x.prio = g.prio := by omega
      have e := congrArg List.head? (hT.flt g.prio)
      rw [← find_head, ← find_head, List.find?_cons] at e
      rw [show (x.prio == g.prio) = true by rw [hpe]; simp] at e
      dsimp only at e
      rw [find_head, List.filter_filter, ← find_head] at e
      rw [find_ix h4 (by rw [h5]; simp) fun j y hj hy => ?_] at e
      · exact e
      · cases hq : (q1 y && q2 y) with
        | false => rw [Bool.and_false]
        | true =>
          have := (h6 j y (by omega) (by omega) hy hq).2 hj
          rw [show (y.prio == g.prio) = false from beq_false_of_ne (by omega)]
          rfl
end Go.Proofs.YtmidechdlbcepaaGreat