import Derived.Test.YtmidechdlbcepaaGreatPack26
import Derived.Test.YtmidechdlbcepaaGreatPack21
import Derived.Test.YtmidechdlbcepaaGreatPack20
import Derived.Test.YtmidechdlbcepaaGreatPack23
import Derived.Test.YtmidechdlbcepaaGreatPack06
set_option linter.unusedSimpArgs false
set_option linter.unusedVariables false
namespace Go.Proofs.YtmidechdlbcepaaGreat
open Go.RowKit
set_option maxRecDepth 100000

theorem addPort1_T (p q : Po) : Fun Tryz.prog 96 [.agg ((encPo q).map .fv), .fptr (encPo p)] (.fv (.bool (q.id == p.id || (q.sw == p.sw && q.mac == p.mac)))) := by
  refine Fun.body tbl_ok Tryz.func96 rfl (by kernel_rfl) rfl rfl rfl ?_
  repeat' (first | refine X.loc ?_ | refine nx ?_ | (refine WP.condBit rfl ?_ ?_) | (refine WP.cond rfl ?_ ?_ <;> intro hcond) | refine rb ?_ | refine nd ?_ | refine dk ?_ | fail)
  exact .f1 (.inl rfl) rfl rfl
set_option maxHeartbeats 2000000 in
theorem addSwitch_T (c : Cf) (s : Sw) (hl : c.Small) (hw : c.Wf) (hn : c.ss.length ≤ 12) : Fun Tryz.prog 63 [.agg ((encCf c).map .fv), .agg ((encSw s).map .fv)] (.fv (.int .i64 (swFault c s))) := by
  have hl1 := hl.1
  have hix := idxB_any (fun x : Sw => x.id == s.id) c.ss
  have hsec : 0 ≤ s.gate → ((decide (idxB (fun x : Sw => x.id == s.id) c.ss ≥ 0) || (s.gate != 0 && takenB c s.tenant s.gate)) = true ↔ (c.ss.any (fun x => x.id == s.id) = true ∨ (0 < s.gate ∧ takenB c s.tenant s.gate = true))) := fun hg => by
    rw [Bool.or_eq_true, decide_eq_true_iff, Bool.and_eq_true, bne_iff_ne]
    refine or_congr ?_ (and_congr (by omega) Iff.rfl)
    rw [← Bool.not_eq_false, ← hix]
    omega
  refine Fun.body tbl_ok Tryz.func63 rfl (by kernel_rfl) rfl rfl rfl ?_
  repeat' (first | (apply X.loE; (· exact aR); (· first | exact .callL rfl rfl rfl (by first | exact within_T _ _ _ | exact place_T c _ hl1 | exact taken_T c _ _ hl hw) rfl | exact bl (within_T _ _ _) | exact bl (place_T c _ hl1) | exact bl (taken_T c _ _ hl hw))) | refine X.loc ?_ | refine nx ?_ | (refine WP.condBit rfl ?_ ?_) | (refine WP.cond rfl ?_ ?_ <;> intro hcond) | (apply X.gsE; (· exact aR); (· exact aV); (· exact aW); (· intro hc; first | exact .callG rfl rfl rfl (by first | exact within_T _ _ _ | exact place_T c _ hl1 | exact taken_T c _ _ hl hw) rfl | exact bg (within_T _ _ _) | exact bg (place_T c _ hl1) | exact bg (taken_T c _ _ hl hw)); (· exact aR)) | refine rb ?_ | refine nd ?_ | refine dk ?_ | fail)
  · refine .f1 (.inl rfl) rfl ?_
    rw [swFault, if_pos (by simpa [or_assoc] using hcond)]
  · refine .f1 (.inl rfl) rfl ?_
    rename_i h1
    have h1 : ¬ (inR s.id 1 500 = false ∨ inR s.tenant 1 9 = false ∨ inR s.gate 0 65535 = false) := by simpa [and_assoc] using h1
    have hg : 0 ≤ s.gate := (inR_iff.1 (show inR s.gate 0 65535 = true by simp at h1; exact h1.2.2)).1
    rw [swFault, if_neg h1, if_pos ((hsec hg).1 hcond)]
  · refine .f1 (.inl rfl) rfl ?_
    rename_i h1 h2
    have h1 : ¬ (inR s.id 1 500 = false ∨ inR s.tenant 1 9 = false ∨ inR s.gate 0 65535 = false) := by simpa [and_assoc] using h1
    have hg : 0 ≤ s.gate := (inR_iff.1 (show inR s.gate 0 65535 = true by simp at h1; exact h1.2.2)).1
    rw [swFault, if_neg h1, if_neg (fun h => by rw [(hsec hg).2 h] at h2; cases h2), if_pos (by simp at hcond; omega)]
  · refine .f1 (.inl rfl) rfl ?_
    rename_i h1 h2
    have h1 : ¬ (inR s.id 1 500 = false ∨ inR s.tenant 1 9 = false ∨ inR s.gate 0 65535 = false) := by simpa [and_assoc] using h1
    have hg : 0 ≤ s.gate := (inR_iff.1 (show inR s.gate 0 65535 = true by simp at h1; exact h1.2.2)).1
    rw [swFault, if_neg h1, if_neg (fun h => by rw [(hsec hg).2 h] at h2; cases h2), if_neg (by simp at hcond; omega)]
set_option maxHeartbeats 2000000 in
theorem addPort_T (c : Cf) (p : Po) (hl : c.Small) (hw : c.Wf) (hn : c.ps.length ≤ 40) : Fun Tryz.prog 64 [.agg ((encCf c).map .fv), .agg ((encPo p).map .fv)] (.fv (.int .i64 (poFault c p))) := by
  have hl1 := hl.1
  have hix := idxB_any (fun x : Sw => x.id == p.sw) c.ss
  have hpl := place_T c p.sw hl1
  have hr : ∀ {b : Bool}, (!inR p.id 1 999 || !inR p.mac 1 59999 || !inR p.ip 1 65535 || !inR p.ch (-1) 5) = false → ¬ (inR p.id 1 999 = false ∨ inR p.mac 1 59999 = false ∨ inR p.ip 1 65535 = false ∨ inR p.ch (-1) 5 = false) := fun {_} h => by simpa [and_assoc] using h
  refine Fun.body tbl_ok Tryz.func64 rfl (by kernel_rfl) rfl rfl rfl ?_
  cases hany : c.ss.any (fun x => x.id == p.sw) with
  | false =>
    have : idxB (fun x : Sw => x.id == p.sw) c.ss = -1 := by
      have := idxB_ge (fun x : Sw => x.id == p.sw) c.ss
      have := hix.2 hany
      omega
    rw [this] at hpl
    repeat' (first | (apply X.loE; (· exact aR); (· first | exact .callL rfl rfl rfl (by first | exact within_T _ _ _ | exact hpl) rfl | exact bl (within_T _ _ _) | exact bl (hpl))) | refine X.loc ?_ | refine nx ?_ | (refine WP.condBit rfl ?_ ?_) | (refine WP.cond rfl ?_ ?_ <;> intro hcond) | (apply X.gsE; (· exact aR); (· exact aV); (· exact aW); (· intro hc; first | exact .callG rfl rfl rfl (by first | exact within_T _ _ _ | exact hpl) rfl | exact bg (within_T _ _ _) | exact bg (hpl)); (· exact aR)) | refine rb ?_ | refine nd ?_ | refine dk ?_ | fail)
    · refine .f1 (.inl rfl) rfl ?_
      rw [poFault, if_pos (by simpa [or_assoc] using hcond)]
    · refine .f1 (.inl rfl) rfl ?_
      rw [poFault, if_neg (hr (b := true) (by assumption)), if_pos hany]
  | true =>
    obtain ⟨k, hk⟩ := idxB_some hany
    obtain ⟨x, hx, ht⟩ := tenantAt_at hk
    rw [hk] at hpl
    have hnf : ¬ (c.ss.any (fun x => x.id == p.sw) = false) := by rw [hany]; simp
    repeat' (first | (apply X.loE; (· exact aR); (· first | (exact .eff (.idxS rfl rfl rfl encSw_len hx)) | exact .callL rfl rfl rfl (by first | exact within_T _ _ _ | exact hpl | exact containsPo_T c.ps _ [.fptr (encPo p)] (fun q => q.id == p.id || (q.sw == p.sw && q.mac == p.mac)) hl.2.1 (fun q _ => addPort1_T p q) | exact taken_T c _ _ hl hw) rfl | exact bl (within_T _ _ _) | exact bl (hpl) | exact bl (containsPo_T c.ps _ [.fptr (encPo p)] (fun q => q.id == p.id || (q.sw == p.sw && q.mac == p.mac)) hl.2.1 (fun q _ => addPort1_T p q)) | exact bl (taken_T c _ _ hl hw))) | refine X.loc ?_ | refine nx ?_ | (refine WP.condBit rfl ?_ ?_) | (refine WP.cond rfl ?_ ?_ <;> intro hcond) | (apply X.gsE; (· exact aR); (· exact aV); (· exact aW); (· intro hc; first | (exact .eff (.idxS rfl rfl rfl encSw_len hx)) | exact .callG rfl rfl rfl (by first | exact within_T _ _ _ | exact hpl | exact containsPo_T c.ps _ [.fptr (encPo p)] (fun q => q.id == p.id || (q.sw == p.sw && q.mac == p.mac)) hl.2.1 (fun q _ => addPort1_T p q) | exact taken_T c _ _ hl hw) rfl | exact bg (within_T _ _ _) | exact bg (hpl) | exact bg (containsPo_T c.ps _ [.fptr (encPo p)] (fun q => q.id == p.id || (q.sw == p.sw && q.mac == p.mac)) hl.2.1 (fun q _ => addPort1_T p q)) | exact bg (taken_T c _ _ hl hw)); (· exact aR)) | refine rb ?_ | refine nd ?_ | refine dk ?_ | fail)
    · refine .f1 (.inl rfl) rfl ?_
      rw [poFault, if_pos (by simpa [or_assoc] using hcond)]
    · refine .f1 (.inl rfl) rfl ?_
      rw [poFault, if_neg (hr (b := true) (by assumption)), if_neg hnf, if_pos hcond]
    · refine .f1 (.inl rfl) rfl ?_
      rename_i h2
      rw [poFault, if_neg (hr (b := true) (by assumption)), if_neg hnf, if_neg (fun h => by rw [h] at h2; cases h2), ht, if_pos hcond]
    · refine .f1 (.inl rfl) rfl ?_
      rename_i h2 h3
      rw [poFault, if_neg (hr (b := true) (by assumption)), if_neg hnf, if_neg (fun h => by rw [h] at h2; cases h2), ht, if_neg (fun h => by rw [h] at h3; cases h3), if_pos (by simp at hcond; omega)]
    · refine .f1 (.inl rfl) rfl ?_
      rename_i h2 h3
      rw [poFault, if_neg (hr (b := true) (by assumption)), if_neg hnf, if_neg (fun h => by rw [h] at h2; cases h2), ht, if_neg (fun h => by rw [h] at h3; cases h3), if_neg (by simp at hcond; omega)]
theorem unitOf_nat (b : Nat) : unitOf (b : Int) = ((2 ^ (16 - b) : Nat) : Int) := by
  unfold unitOf
  rw [Int.toNat_natCast]
  simp
set_option maxHeartbeats 4000000 in
theorem addAcl_T (c : Cf) (a : Ac) (hl : c.Small) (hn : c.acs.length ≤ 40) : Fun Tryz.prog 65 [.agg ((encCf c).map .fv), .agg ((encAc a).map .fv)] (.fv (.int .i64 (acFault c a))) := by
  have hl1 := hl.1
  have hix := idxB_any (fun x : Sw => x.id == a.sw) c.ss
  have hpl := place_T c a.sw hl1
  refine Fun.body tbl_ok Tryz.func65 rfl (by kernel_rfl) rfl rfl rfl ?_
  repeat' (first | (apply X.loE; (· exact aR); (· first | exact .callL rfl rfl rfl (within_T _ _ _) rfl | exact bl (within_T _ _ _))) | refine X.loc ?_ | refine nx ?_ | (refine WP.condBit rfl ?_ ?_) | (refine WP.cond rfl ?_ ?_ <;> intro hcond) | (apply X.gsE; (· exact aR); (· exact aV); (· exact aW); (· intro hc; first | exact .callG rfl rfl rfl (within_T _ _ _) rfl | exact bg (within_T _ _ _)); (· exact aR)) | refine rb ?_ | refine dk ?_ | fail)
  · refine .f1 (.inl rfl) rfl ?_
    rw [acFault, if_pos (by simpa [or_assoc] using hcond)]
  have h1 : ¬ (inR a.prio 0 1000 = false ∨ inR a.src 0 65535 = false ∨ inR a.dst 0 65535 = false ∨ inR a.srcBits 0 16 = false ∨ inR a.dstBits 0 16 = false ∨ inR a.port (-1) 65535 = false) := by simpa [and_assoc] using hcond
  have g1 := inR_iff.1 (show inR a.src 0 65535 = true by simp_all)
  have g2 := inR_iff.1 (show inR a.dst 0 65535 = true by simp_all)
  have g3 := inR_iff.1 (show inR a.srcBits 0 16 = true by simp_all)
  have g4 := inR_iff.1 (show inR a.dstBits 0 16 = true by simp_all)
  obtain ⟨sb, hsb⟩ := Int.eq_ofNat_of_zero_le g3.1
  obtain ⟨db, hdb⟩ := Int.eq_ofNat_of_zero_le g4.1
  obtain ⟨sr, hsr⟩ := Int.eq_ofNat_of_zero_le g1.1
  obtain ⟨ds, hds⟩ := Int.eq_ofNat_of_zero_le g2.1
  have m1 := mask_T sb (by omega)
  have m2 := mask_T db (by omega)
  rw [← hsb] at m1
  rw [← hdb] at m2
  have n1 := andNot_mask sr sb (by omega) (by omega)
  have n2 := andNot_mask ds db (by omega) (by omega)
  rw [← hsr] at n1
  rw [← hds] at n2
  have hsec : (bits .andNot .i64 a.src ((65536 - 2 ^ (16 - sb) : Nat) : Int) != 0 || bits .andNot .i64 a.dst ((65536 - 2 ^ (16 - db) : Nat) : Int) != 0) = true ↔ (a.src % unitOf a.srcBits ≠ 0 ∨ a.dst % unitOf a.dstBits ≠ 0) := by
    rw [n1, n2, hsb, hdb, unitOf_nat, unitOf_nat, hsr, hds, Bool.or_eq_true, bne_iff_ne, bne_iff_ne, Int.natCast_emod, Int.natCast_emod]
  clear hcond
  repeat' (first | (apply X.loE; (· exact aR); (· first | exact .callL rfl rfl rfl (by first | exact m1 | exact m2 | exact hpl) rfl | exact bl (m1) | exact bl (m2) | exact bl (hpl))) | refine X.loc ?_ | refine nx ?_ | (refine WP.condBit rfl ?_ ?_) | (refine WP.cond rfl ?_ ?_ <;> intro hcond) | (apply X.gsE; (· exact aR); (· exact aV); (· exact aW); (· intro hc; first | exact .callG rfl rfl rfl (by first | exact m1 | exact m2 | exact hpl) rfl | exact bg (m1) | exact bg (m2) | exact bg (hpl)); (· exact aR)) | refine rb ?_ | refine nd ?_ | refine dk ?_ | fail)
  · refine .f1 (.inl rfl) rfl ?_
    rw [acFault, if_neg h1, if_pos (hsec.1 hcond)]
  · refine .f1 (.inl rfl) rfl ?_
    rename_i h2
    rw [acFault, if_neg h1, if_neg (fun h => by rw [hsec.2 h] at h2; cases h2), if_pos (hix.1 (by simpa using hcond))]
  · refine .f1 (.inl rfl) rfl ?_
    rename_i h2 h3
    have h3 : ¬ (c.ss.any (fun x => x.id == a.sw) = false) := fun h => by simp at h3; have := hix.2 h; omega
    rw [acFault, if_neg h1, if_neg (fun h => by rw [hsec.2 h] at h2; cases h2), if_neg h3, if_pos (by simp at hcond; omega)]
  · refine .f1 (.inl rfl) rfl ?_
    rename_i h2 h3
    have h3 : ¬ (c.ss.any (fun x => x.id == a.sw) = false) := fun h => by simp at h3; have := hix.2 h; omega
    rw [acFault, if_neg h1, if_neg (fun h => by rw [hsec.2 h] at h2; cases h2), if_neg h3, if_neg (by simp at hcond; omega)]
end Go.Proofs.YtmidechdlbcepaaGreat

namespace Go.Proofs.YtmidechdlbcepaaGreat
open Go.RowKit
set_option maxRecDepth 100000

def swOf (ss : List Sw) (id : Int) : Sw := (ss.find? (fun s => s.id == id)).getD ⟨0, 0, 0⟩
theorem swOf_tenant (ss : List Sw) (id : Int) : (swOf ss id).tenant = tenantAt ss id := by
  unfold swOf tenantAt
  cases ss.find? (fun s => s.id == id) <;> rfl
theorem find_drop {α : Type} {p : α → Bool} {l : List α} {k : Nat} (h : ∀ x ∈ l.take k, p x = false) : l.find? p = (l.drop k).find? p := by
  conv => lhs; rw [← List.take_append_drop k l]
  rw [List.find?_append, List.find?_eq_none.2 (fun x hx => by rw [h x hx]; simp)]
  rfl
theorem take_all {α : Type} {p : α → Prop} {l : List α} {k : Nat} {x : α} (hx : l[k]? = some x) (h : ∀ y ∈ l.take k, p y) (h' : p x) : ∀ y ∈ l.take (k + 1), p y := by
  rw [List.take_add_one, hx]
  intro y hy
  simp at hy
  rcases hy with hy | rfl
  · exact h y hy
  · exact h'
theorem find_at {α : Type} {p : α → Bool} {l : List α} {k : Nat} {x : α} (hx : l[k]? = some x) (h : ∀ y ∈ l.take k, p y = false) (hp : p x = true) : l.find? p = some x := by
  have hlt := (List.getElem?_eq_some_iff.1 hx).1
  have e : l.drop k = x :: l.drop (k + 1) := by rw [List.drop_eq_getElem_cons hlt, (List.getElem?_eq_some_iff.1 hx).2]
  rw [find_drop h, e, List.find?_cons_of_pos hp]
theorem any_of_find {α : Type} {p : α → Bool} (l : List α) : (l.find? p).isSome = l.any p := by
  rw [Bool.eq_iff_iff, List.find?_isSome, List.any_eq_true]

set_option maxHeartbeats 1000000 in
theorem switchOf_T (c : Cf) (id : Int) (hl : c.Small) : Fun Tryz.prog 108 [.agg ((encCf c).map .fv), .fv (.int .i64 id)] (.tup [.agg ((encSw (swOf c.ss id)).map .fv), .fv (.bool (c.ss.any (fun s => s.id == id)))]) := by
  have hl1 := hl.1
  refine Fun.body tbl_ok Tryz.func108 rfl (by kernel_rfl) rfl rfl rfl ?_
  repeat' (first | refine X.loc ?_ | refine nx ?_ | (refine WP.condBit rfl ?_ ?_) | (refine WP.cond rfl ?_ ?_ <;> intro hcond) | refine rb ?_ | refine nd ?_ | refine dk ?_ | fail)
  refine WP.loop (ι := Nat) (fun k => ⟨[(1, .fv (.int .i64 id)), (2, .optr 2 0), (4, .optr 4 0), (6, .fv (.int .i64 k))], [(2, .box 26 ((encCf c).map .fv)), (4, .box 44 [.fv (.int .i64 0), .fv (.int .i64 0), .fv (.int .i64 0)])]⟩) (fun k => k ≤ c.ss.length ∧ ∀ x ∈ c.ss.take k, (x.id == id) = false) (fun k => c.ss.length - k) 0 ⟨by omega, by simp⟩ ?_ ?_
  · skip
    refine St.le_of ?_ ?_ <;> (repeat' (first | exact trivial | refine ⟨⟨_, rfl, .refl _⟩, ?_⟩ | refine ⟨⟨_, rfl, .any _⟩, ?_⟩ | refine ⟨⟨_, rfl, .of_eq ?_⟩, ?_⟩ | refine ⟨⟨_, rfl, fun _ _ _ _ h => h⟩, ?_⟩ | fail))
  rintro k ⟨hk, hd⟩
  try dsimp only
  by_cases hlt : k < c.ss.length
  case neg =>
    repeat' (first | refine X.loc ?_ | refine nx ?_ | (refine WP.condBit rfl ?_ ?_) | (refine WP.cond rfl ?_ ?_ <;> intro hcond) | refine rb ?_ | refine nd ?_ | refine dk ?_ | fail)
    · exfalso
      simp at hcond
      omega
    · refine .fun (.inl rfl) rfl ?_
      have hn : c.ss.find? (fun s => s.id == id) = none := by
        rw [find_drop hd, List.drop_of_length_le (by omega)]
        rfl
      rw [← any_of_find, swOf, hn]
      rfl
  case pos =>
    obtain ⟨x, hx⟩ : ∃ x, c.ss[k]? = some x := ⟨_, List.getElem?_eq_getElem hlt⟩
    repeat' (first | (apply X.loE; (· exact aR); (· first | (exact .eff (.idxS rfl rfl rfl encSw_len hx)))) | refine X.loc ?_ | refine nx ?_ | (refine WP.condBit rfl ?_ ?_) | (refine WP.cond rfl ?_ ?_ <;> intro hcond) | (apply X.gsE; (· exact aR); (· exact aV); (· exact aW); (· intro hc; first | (exact .eff (.idxS rfl rfl rfl encSw_len hx))); (· exact aR)) | refine rb ?_ | refine nd ?_ | refine dk ?_ | fail)
    · refine .fun (.inl rfl) rfl ?_
      have hn := find_at (p := fun s : Sw => s.id == id) hx hd hcond
      rw [← any_of_find, swOf, hn]
      rfl
    · refine ⟨k + 1, ⟨by omega, take_all hx hd hcond⟩, by omega, ?_⟩
      refine St.le_of ?_ ?_ <;> (repeat' (first | exact trivial | refine ⟨⟨_, rfl, .refl _⟩, ?_⟩ | refine ⟨⟨_, rfl, .any _⟩, ?_⟩ | refine ⟨⟨_, rfl, .of_eq ?_⟩, ?_⟩ | refine ⟨⟨_, rfl, fun _ _ _ _ h => h⟩, ?_⟩ | fail))
    · exfalso
      simp at hcond
      omega
theorem tenantOf_T (c : Cf) (p : Po) (hl : c.Small) : Fun Tryz.prog 145 [.agg ((encCf c).map .fv), .agg ((encPo p).map .fv)] (.fv (.int .i64 (tenantAt c.ss p.sw))) := by
  refine Fun.body tbl_ok Tryz.func145 rfl (by kernel_rfl) rfl rfl rfl ?_
  repeat' (first | (apply X.loE; (· exact aR); (· first | exact .callL rfl rfl rfl (switchOf_T c _ hl) rfl | exact bl (switchOf_T c _ hl))) | refine X.loc ?_ | refine nx ?_ | (refine WP.condBit rfl ?_ ?_) | (refine WP.cond rfl ?_ ?_ <;> intro hcond) | (apply X.gsE; (· exact aR); (· exact aV); (· exact aW); (· intro hc; first | exact .callG rfl rfl rfl (switchOf_T c _ hl) rfl | exact bg (switchOf_T c _ hl)); (· exact aR)) | refine rb ?_ | refine nd ?_ | refine dk ?_ | fail)
  refine .f1 (.inl rfl) rfl ?_
  rw [swOf_tenant]
set_option maxHeartbeats 1000000 in
theorem isTaken_T (c : Cf) (tenant ip : Int) (hl : c.Small) : Fun Tryz.prog 109 [.agg ((encCf c).map .fv), .fv (.int .i64 tenant), .fv (.int .i64 ip)] (.fv (.bool (takenB c tenant ip))) := by
  have hl1 := hl.1
  have hl2 := hl.2.1
  refine Fun.body tbl_ok Tryz.func109 rfl (by kernel_rfl) rfl rfl rfl ?_
  repeat' (first | refine X.loc ?_ | refine nx ?_ | (refine WP.condBit rfl ?_ ?_) | (refine WP.cond rfl ?_ ?_ <;> intro hcond) | refine rb ?_ | refine nd ?_ | refine dk ?_ | fail)
  refine WP.loop (ι := Nat) (fun k => ⟨[(1, .fv (.int .i64 tenant)), (2, .fv (.int .i64 ip)), (3, .optr 3 0), (7, .fv (.int .i64 k))], [(3, .box 26 ((encCf c).map .fv))]⟩)
    (fun k => k ≤ c.ss.length ∧ c.ss.any (fun s => s.tenant == tenant && s.gate == ip) = (c.ss.drop k).any (fun s => s.tenant == tenant && s.gate == ip)) (fun k => c.ss.length - k) 0 ⟨by omega, rfl⟩ ?_ ?_
  · skip
    refine St.le_of ?_ ?_ <;> (repeat' (first | exact trivial | refine ⟨⟨_, rfl, .refl _⟩, ?_⟩ | refine ⟨⟨_, rfl, .any _⟩, ?_⟩ | refine ⟨⟨_, rfl, .of_eq ?_⟩, ?_⟩ | refine ⟨⟨_, rfl, fun _ _ _ _ h => h⟩, ?_⟩ | fail))
  rintro k ⟨hk, hd⟩
  try dsimp only
  by_cases hlt : k < c.ss.length
  case pos =>
    obtain ⟨x, hx⟩ : ∃ x, c.ss[k]? = some x := ⟨_, List.getElem?_eq_getElem hlt⟩
    have hat := any_at (p := fun s : Sw => s.tenant == tenant && s.gate == ip) hx
    repeat' (first | (apply X.loE; (· exact aR); (· first | (exact .eff (.idxS rfl rfl rfl encSw_len hx)))) | refine X.loc ?_ | refine nx ?_ | (refine WP.condBit rfl ?_ ?_) | (refine WP.cond rfl ?_ ?_ <;> intro hcond) | (apply X.gsE; (· exact aR); (· exact aV); (· exact aW); (· intro hc; first | (exact .eff (.idxS rfl rfl rfl encSw_len hx))); (· exact aR)) | refine rb ?_ | refine nd ?_ | refine dk ?_ | fail)
    · refine .f1 (.inl rfl) rfl ?_
      unfold takenB
      rw [hd, hat, hcond]
      rfl
    · refine ⟨k + 1, ⟨by omega, ?_⟩, by omega, ?_⟩
      · rw [hd, hat, hcond]
        rfl
      · skip
        refine St.le_of ?_ ?_ <;> (repeat' (first | exact trivial | refine ⟨⟨_, rfl, .refl _⟩, ?_⟩ | refine ⟨⟨_, rfl, .any _⟩, ?_⟩ | refine ⟨⟨_, rfl, .of_eq ?_⟩, ?_⟩ | refine ⟨⟨_, rfl, fun _ _ _ _ h => h⟩, ?_⟩ | fail))
    · exfalso
      simp at hcond
      omega
  case neg =>
    have hno : c.ss.any (fun s => s.tenant == tenant && s.gate == ip) = false := by rw [hd, List.drop_of_length_le (by omega)]; rfl
    repeat' (first | refine X.loc ?_ | refine nx ?_ | (refine WP.condBit rfl ?_ ?_) | (refine WP.cond rfl ?_ ?_ <;> intro hcond) | refine rb ?_ | refine nd ?_ | refine dk ?_ | fail)
    · exfalso
      simp at hcond
      omega
    refine WP.loop (ι := Nat) (fun k => ⟨[(1, .fv (.int .i64 tenant)), (2, .fv (.int .i64 ip)), (3, .optr 3 0), (8, .fv (.int .i64 k))], [(3, .box 26 ((encCf c).map .fv))]⟩)
      (fun k => k ≤ c.ps.length ∧ c.ps.any (fun p => p.ip == ip && tenantAt c.ss p.sw == tenant) = (c.ps.drop k).any (fun p => p.ip == ip && tenantAt c.ss p.sw == tenant)) (fun k => c.ps.length - k) 0 ⟨by omega, rfl⟩ ?_ ?_
    · skip
      refine St.le_of ?_ ?_ <;> (repeat' (first | exact trivial | refine ⟨⟨_, rfl, .refl _⟩, ?_⟩ | refine ⟨⟨_, rfl, .any _⟩, ?_⟩ | refine ⟨⟨_, rfl, .of_eq ?_⟩, ?_⟩ | refine ⟨⟨_, rfl, fun _ _ _ _ h => h⟩, ?_⟩ | fail))
    rintro j ⟨hj, hjd⟩
    try dsimp only
    by_cases hjlt : j < c.ps.length
    case pos =>
      obtain ⟨x, hx⟩ : ∃ x, c.ps[j]? = some x := ⟨_, List.getElem?_eq_getElem hjlt⟩
      have hat := any_at (p := fun p : Po => p.ip == ip && tenantAt c.ss p.sw == tenant) hx
      repeat' (first | (apply X.loE; (· exact aR); (· first | (exact .eff (.idxS rfl rfl rfl encPo_len hx)) | exact .callL rfl rfl rfl (tenantOf_T c x hl) rfl | exact bl (tenantOf_T c x hl))) | refine X.loc ?_ | refine nx ?_ | (refine WP.condBit rfl ?_ ?_) | (refine WP.cond rfl ?_ ?_ <;> intro hcond) | (apply X.gsE; (· exact aR); (· exact aV); (· exact aW); (· intro hc; first | (exact .eff (.idxS rfl rfl rfl encPo_len hx)) | exact .callG rfl rfl rfl (tenantOf_T c x hl) rfl | exact bg (tenantOf_T c x hl)); (· exact aR)) | refine rb ?_ | refine nd ?_ | refine dk ?_ | fail)
      · refine .f1 (.inl rfl) rfl ?_
        unfold takenB
        rw [hno, hjd, hat, hcond]
        rfl
      · refine ⟨j + 1, ⟨by omega, ?_⟩, by omega, ?_⟩
        · rw [hjd, hat, hcond]
          rfl
        · skip
          refine St.le_of ?_ ?_ <;> (repeat' (first | exact trivial | refine ⟨⟨_, rfl, .refl _⟩, ?_⟩ | refine ⟨⟨_, rfl, .any _⟩, ?_⟩ | refine ⟨⟨_, rfl, .of_eq ?_⟩, ?_⟩ | refine ⟨⟨_, rfl, fun _ _ _ _ h => h⟩, ?_⟩ | fail))
      · exfalso
        simp at hcond
        omega
    case neg =>
      repeat' (first | refine X.loc ?_ | refine nx ?_ | (refine WP.condBit rfl ?_ ?_) | (refine WP.cond rfl ?_ ?_ <;> intro hcond) | refine rb ?_ | refine nd ?_ | refine dk ?_ | fail)
      · exfalso
        simp at hcond
        omega
      · refine .f1 (.inl rfl) rfl ?_
        unfold takenB
        rw [hno, hjd, List.drop_of_length_le (by omega)]
        rfl
end Go.Proofs.YtmidechdlbcepaaGreat

namespace Go.Proofs.YtmidechdlbcepaaGreat
open Go.RowKit
set_option maxRecDepth 100000

theorem switchFault_T (c : Cf) (s : Sw) (hl : c.Small) : Fun Tryz.prog 79 [.agg ((encCf c).map .fv), .agg ((encSw s).map .fv)] (.fv (.int .i64 (swFault c s))) := by
  have hsec : (c.ss.any (fun x => x.id == s.id) || (decide (s.gate > 0) && takenB c s.tenant s.gate)) = true ↔ (c.ss.any (fun x => x.id == s.id) = true ∨ (0 < s.gate ∧ takenB c s.tenant s.gate = true)) := by
    rw [Bool.or_eq_true, Bool.and_eq_true, decide_eq_true_iff]
  refine Fun.body tbl_ok Tryz.func79 rfl (by kernel_rfl) rfl rfl rfl ?_
  repeat' (first | (apply X.loE; (· exact aR); (· first | exact .callL rfl rfl rfl (by first | exact in_T _ _ _ | exact switchOf_T c _ hl | exact isTaken_T c _ _ hl) rfl | exact bl (in_T _ _ _) | exact bl (switchOf_T c _ hl) | exact bl (isTaken_T c _ _ hl))) | refine X.loc ?_ | refine nx ?_ | (refine WP.condBit rfl ?_ ?_) | (refine WP.cond rfl ?_ ?_ <;> intro hcond) | (apply X.gsE; (· exact aR); (· exact aV); (· exact aW); (· intro hc; first | exact .callG rfl rfl rfl (by first | exact in_T _ _ _ | exact switchOf_T c _ hl | exact isTaken_T c _ _ hl) rfl | exact bg (in_T _ _ _) | exact bg (switchOf_T c _ hl) | exact bg (isTaken_T c _ _ hl)); (· exact aR)) | refine rb ?_ | refine nd ?_ | refine dk ?_ | fail)
  · refine .f1 (.inl rfl) rfl ?_
    rw [swFault, if_pos (by simpa [or_assoc] using hcond)]
  all_goals (have h1 : ¬ (inR s.id 1 500 = false ∨ inR s.tenant 1 9 = false ∨ inR s.gate 0 65535 = false) := by simpa [and_assoc] using ‹(!inR s.id 1 500 || !inR s.tenant 1 9 || !inR s.gate 0 65535) = false›)
  · refine .f1 (.inl rfl) rfl ?_
    rw [swFault, if_neg h1, if_pos (hsec.1 hcond)]
  · refine .f1 (.inl rfl) rfl ?_
    rename_i h2
    rw [swFault, if_neg h1, if_neg (fun h => by rw [hsec.2 h] at h2; cases h2), if_pos (by simp at hcond; omega)]
  · refine .f1 (.inl rfl) rfl ?_
    rename_i h2
    rw [swFault, if_neg h1, if_neg (fun h => by rw [hsec.2 h] at h2; cases h2), if_neg (by simp at hcond; omega)]
set_option maxHeartbeats 2000000 in
theorem portFault_T (c : Cf) (p : Po) (hl : c.Small) : Fun Tryz.prog 80 [.agg ((encCf c).map .fv), .agg ((encPo p).map .fv)] (.fv (.int .i64 (poFault c p))) := by
  have hl2 := hl.2.1
  refine Fun.body tbl_ok Tryz.func80 rfl (by kernel_rfl) rfl rfl rfl ?_
  repeat' (first | (apply X.loE; (· exact aR); (· first | exact .callL rfl rfl rfl (by first | exact in_T _ _ _ | exact switchOf_T c _ hl) rfl | exact bl (in_T _ _ _) | exact bl (switchOf_T c _ hl))) | refine X.loc ?_ | refine nx ?_ | (refine WP.condBit rfl ?_ ?_) | (refine WP.cond rfl ?_ ?_ <;> intro hcond) | (apply X.gsE; (· exact aR); (· exact aV); (· exact aW); (· intro hc; first | exact .callG rfl rfl rfl (by first | exact in_T _ _ _ | exact switchOf_T c _ hl) rfl | exact bg (in_T _ _ _) | exact bg (switchOf_T c _ hl)); (· exact aR)) | refine rb ?_ | refine nd ?_ | refine dk ?_ | fail)
  · refine .f1 (.inl rfl) rfl ?_
    rw [poFault, if_pos (by simpa [or_assoc] using hcond)]
  all_goals (have h1 : ¬ (inR p.id 1 999 = false ∨ inR p.mac 1 59999 = false ∨ inR p.ip 1 65535 = false ∨ inR p.ch (-1) 5 = false) := by simpa [and_assoc] using ‹(!inR p.id 1 999 || !inR p.mac 1 59999 || !inR p.ip 1 65535 || !inR p.ch (-1) 5) = false›)
  · refine .f1 (.inl rfl) rfl ?_
    rw [poFault, if_neg h1, if_pos (by simpa only [Bool.not_eq_true'] using hcond)]
  have h2 : ¬ (c.ss.any (fun x => x.id == p.sw) = false) := by simpa only [Bool.not_eq_false', Bool.not_eq_false] using hcond
  clear hcond
  refine WP.loop (ι := Nat) (fun k => ⟨[(2, .optr 2 0), (3, .optr 3 0), (5, .optr 5 0), (7, .fv (.int .i64 k))], [(2, .box 26 ((encCf c).map .fv)), (3, .box 69 ((encPo p).map .fv)), (5, .box 44 ((encSw (swOf c.ss p.sw)).map .fv))]⟩)
    (fun k => k ≤ c.ps.length ∧ c.ps.any (fun q => q.id == p.id || (q.sw == p.sw && q.mac == p.mac)) = (c.ps.drop k).any (fun q => q.id == p.id || (q.sw == p.sw && q.mac == p.mac))) (fun k => c.ps.length - k) 0 ⟨by omega, rfl⟩ ?_ ?_
  · skip
    refine St.le_of ?_ ?_ <;> (repeat' (first | exact trivial | refine ⟨⟨_, rfl, .refl _⟩, ?_⟩ | refine ⟨⟨_, rfl, .any _⟩, ?_⟩ | refine ⟨⟨_, rfl, .of_eq ?_⟩, ?_⟩ | refine ⟨⟨_, rfl, fun _ _ _ _ h => h⟩, ?_⟩ | fail))
  rintro k ⟨hk, hd⟩
  try dsimp only
  by_cases hlt : k < c.ps.length
  case pos =>
    obtain ⟨x, hx⟩ : ∃ x, c.ps[k]? = some x := ⟨_, List.getElem?_eq_getElem hlt⟩
    have hat := any_at (p := fun q : Po => q.id == p.id || (q.sw == p.sw && q.mac == p.mac)) hx
    repeat' (first | (apply X.loE; (· exact aR); (· first | (exact .eff (.idxS rfl rfl rfl encPo_len hx)))) | refine X.loc ?_ | refine nx ?_ | (refine WP.condBit rfl ?_ ?_) | (refine WP.cond rfl ?_ ?_ <;> intro hcond) | (apply X.gsE; (· exact aR); (· exact aV); (· exact aW); (· intro hc; first | (exact .eff (.idxS rfl rfl rfl encPo_len hx))); (· exact aR)) | refine rb ?_ | refine nd ?_ | refine dk ?_ | fail)
    · refine .f1 (.inl rfl) rfl ?_
      rw [poFault, if_neg h1, if_neg h2, if_pos (by rw [hd, hat, hcond]; rfl)]
    · refine ⟨k + 1, ⟨by omega, ?_⟩, by omega, ?_⟩
      · rw [hd, hat, hcond]
        rfl
      · skip
        refine St.le_of ?_ ?_ <;> (repeat' (first | exact trivial | refine ⟨⟨_, rfl, .refl _⟩, ?_⟩ | refine ⟨⟨_, rfl, .any _⟩, ?_⟩ | refine ⟨⟨_, rfl, .of_eq ?_⟩, ?_⟩ | refine ⟨⟨_, rfl, fun _ _ _ _ h => h⟩, ?_⟩ | fail))
    · exfalso
      simp at hcond
      omega
  case neg =>
    have h3 : ¬ (c.ps.any (fun q => q.id == p.id || (q.sw == p.sw && q.mac == p.mac)) = true) := by rw [hd, List.drop_of_length_le (by omega)]; simp
    repeat' (first | (apply X.loE; (· exact aR); (· first | exact .callL rfl rfl rfl (isTaken_T c _ _ hl) rfl | exact bl (isTaken_T c _ _ hl))) | refine X.loc ?_ | refine nx ?_ | (refine WP.condBit rfl ?_ ?_) | (refine WP.cond rfl ?_ ?_ <;> intro hcond) | (apply X.gsE; (· exact aR); (· exact aV); (· exact aW); (· intro hc; first | exact .callG rfl rfl rfl (isTaken_T c _ _ hl) rfl | exact bg (isTaken_T c _ _ hl)); (· exact aR)) | refine rb ?_ | refine nd ?_ | refine dk ?_ | fail)
    · exfalso
      simp at hcond
      omega
    · refine .f1 (.inl rfl) rfl ?_
      rw [poFault, if_neg h1, if_neg h2, if_neg h3, ← swOf_tenant, if_pos hcond]
    · refine .f1 (.inl rfl) rfl ?_
      rename_i h4
      rw [poFault, if_neg h1, if_neg h2, if_neg h3, ← swOf_tenant, if_neg (fun h => by rw [h] at h4; cases h4), if_pos (by simp at hcond; omega)]
    · refine .f1 (.inl rfl) rfl ?_
      rename_i h4
      rw [poFault, if_neg h1, if_neg h2, if_neg h3, ← swOf_tenant, if_neg (fun h => by rw [h] at h4; cases h4), if_neg (by simp at hcond; omega)]
theorem unit_T (b : Nat) (hb : b ≤ 16) : Fun Tryz.prog 110 [.fv (.int .i64 b)] (.fv (.int .i64 (unitOf b))) := by
  refine Fun.body tbl_ok Tryz.func110 rfl (by kernel_rfl) rfl rfl rfl ?_
  repeat' (first | refine X.loc ?_ | refine nx ?_ | (refine WP.condBit rfl ?_ ?_) | (refine WP.cond rfl ?_ ?_ <;> intro hcond) | refine rb ?_ | refine nd ?_ | refine dk ?_ | fail)
  refine WP.loop (ι := Nat) (fun k => ⟨[(0, .fv (.int .i64 ((b : Int) - k))), (3, .fv (.int .i64 ((2 ^ (16 - k) : Nat) : Int)))], []⟩) (fun k => k ≤ b) (fun k => b - k) 0 (by omega) ?_ ?_
  · skip
    refine St.le_of ?_ ?_ <;> (repeat' (first | exact trivial | refine ⟨⟨_, rfl, .refl _⟩, ?_⟩ | refine ⟨⟨_, rfl, .any _⟩, ?_⟩ | refine ⟨⟨_, rfl, .of_eq ?_⟩, ?_⟩ | refine ⟨⟨_, rfl, fun _ _ _ _ h => h⟩, ?_⟩ | fail))
  rintro k hk
  try dsimp only
  have hp : (2 : Nat) ^ (16 - k) ≤ 65536 := by
    have := Nat.pow_le_pow_right (n := 2) (by omega) (show 16 - k ≤ 16 by omega)
    simpa using this
  have hpz := Nat.two_pow_pos (16 - k)
  generalize hq : (2 : Nat) ^ (16 - k) = q at hp hpz
  by_cases hlt : k < b
  case pos =>
    repeat' (first | refine X.loc ?_ | refine nx ?_ | (refine WP.condBit rfl ?_ ?_) | (refine WP.cond rfl ?_ ?_ <;> intro hcond) | refine rb ?_ | refine nd ?_ | refine dk ?_ | fail)
    · refine ⟨k + 1, by omega, by omega, ?_⟩
      refine St.le_of ?_ ?_ <;> (repeat' (first | exact trivial | refine ⟨⟨_, rfl, .refl _⟩, ?_⟩ | refine ⟨⟨_, rfl, .any _⟩, ?_⟩ | refine ⟨⟨_, rfl, .of_eq ?_⟩, ?_⟩ | refine ⟨⟨_, rfl, fun _ _ _ _ h => h⟩, ?_⟩ | fail))
      · congr 2
        omega
      · rw [show 16 - k = (16 - (k + 1)) + 1 from by omega, Nat.pow_succ] at hq
        generalize (2 : Nat) ^ (16 - (k + 1)) = r at hq ⊢
        congr 2
        omega
    · exfalso
      simp at hcond
      omega
  case neg =>
    repeat' (first | refine X.loc ?_ | refine nx ?_ | (refine WP.condBit rfl ?_ ?_) | (refine WP.cond rfl ?_ ?_ <;> intro hcond) | refine rb ?_ | refine nd ?_ | refine dk ?_ | fail)
    · exfalso
      simp at hcond
      omega
    · refine .f1 (.inl rfl) rfl ?_
      have : k = b := by omega
      subst this
      rw [unitOf, Int.toNat_natCast, ← hq]
      simp
set_option maxHeartbeats 2000000 in
theorem aclFault_T (c : Cf) (a : Ac) (hl : c.Small) : Fun Tryz.prog 81 [.agg ((encCf c).map .fv), .agg ((encAc a).map .fv)] (.fv (.int .i64 (acFault c a))) := by
  refine Fun.body tbl_ok Tryz.func81 rfl (by kernel_rfl) rfl rfl rfl ?_
  repeat' (first | (apply X.loE; (· exact aR); (· first | exact .callL rfl rfl rfl (in_T _ _ _) rfl | exact bl (in_T _ _ _))) | refine X.loc ?_ | refine nx ?_ | (refine WP.condBit rfl ?_ ?_) | (refine WP.cond rfl ?_ ?_ <;> intro hcond) | (apply X.gsE; (· exact aR); (· exact aV); (· exact aW); (· intro hc; first | exact .callG rfl rfl rfl (in_T _ _ _) rfl | exact bg (in_T _ _ _)); (· exact aR)) | refine rb ?_ | refine dk ?_ | fail)
  · refine .f1 (.inl rfl) rfl ?_
    rw [acFault, if_pos (by simpa [or_assoc] using hcond)]
  have h1 : ¬ (inR a.prio 0 1000 = false ∨ inR a.src 0 65535 = false ∨ inR a.dst 0 65535 = false ∨ inR a.srcBits 0 16 = false ∨ inR a.dstBits 0 16 = false ∨ inR a.port (-1) 65535 = false) := by simpa [and_assoc] using hcond
  have g1 := inR_iff.1 (show inR a.src 0 65535 = true by simp_all)
  have g2 := inR_iff.1 (show inR a.dst 0 65535 = true by simp_all)
  have g3 := inR_iff.1 (show inR a.srcBits 0 16 = true by simp_all)
  have g4 := inR_iff.1 (show inR a.dstBits 0 16 = true by simp_all)
  obtain ⟨sb, hsb⟩ := Int.eq_ofNat_of_zero_le g3.1
  obtain ⟨db, hdb⟩ := Int.eq_ofNat_of_zero_le g4.1
  have m1 := unit_T sb (by omega)
  have m2 := unit_T db (by omega)
  rw [← hsb] at m1
  rw [← hdb] at m2
  have p1 : 0 < unitOf a.srcBits := by unfold unitOf; exact Int.pow_pos (by omega)
  have p2 : 0 < unitOf a.dstBits := by unfold unitOf; exact Int.pow_pos (by omega)
  have hsec : (a.src % unitOf a.srcBits != 0 || a.dst % unitOf a.dstBits != 0) = true ↔ (a.src % unitOf a.srcBits ≠ 0 ∨ a.dst % unitOf a.dstBits ≠ 0) := by
    rw [Bool.or_eq_true, bne_iff_ne, bne_iff_ne]
  clear hcond
  repeat' (first | (apply X.loE; (· exact aR); (· first | exact .callL rfl rfl rfl (by first | exact m1 | exact m2 | exact switchOf_T c _ hl) rfl | exact bl (m1) | exact bl (m2) | exact bl (switchOf_T c _ hl))) | refine X.loc ?_ | refine nx ?_ | (refine WP.condBit rfl ?_ ?_) | (refine WP.cond rfl ?_ ?_ <;> intro hcond) | (apply X.gsE; (· exact aR); (· exact aV); (· exact aW); (· intro hc; first | exact .callG rfl rfl rfl (by first | exact m1 | exact m2 | exact switchOf_T c _ hl) rfl | exact bg (m1) | exact bg (m2) | exact bg (switchOf_T c _ hl)); (· exact aR)) | refine rb ?_ | refine nd ?_ | refine dk ?_ | fail)
  · refine .f1 (.inl rfl) rfl ?_
    rw [acFault, if_neg h1, if_pos (hsec.1 hcond)]
  · refine .f1 (.inl rfl) rfl ?_
    rename_i h2
    rw [acFault, if_neg h1, if_neg (fun h => by rw [hsec.2 h] at h2; cases h2), if_pos (by simpa only [Bool.not_eq_true'] using hcond)]
  · refine .f1 (.inl rfl) rfl ?_
    rename_i h2 h3
    rw [acFault, if_neg h1, if_neg (fun h => by rw [hsec.2 h] at h2; cases h2), if_neg (by simpa only [Bool.not_eq_false', Bool.not_eq_false] using h3), if_pos (by simp at hcond; omega)]
  · refine .f1 (.inl rfl) rfl ?_
    rename_i h2 h3
    rw [acFault, if_neg h1, if_neg (fun h => by rw [hsec.2 h] at h2; cases h2), if_neg (by simpa only [Bool.not_eq_false', Bool.not_eq_false] using h3), if_neg (by simp at hcond; omega)]
end Go.Proofs.YtmidechdlbcepaaGreat

namespace Go.Proofs.YtmidechdlbcepaaGreat
open Go.RowKit
set_option maxRecDepth 100000

theorem take_snoc {α : Type} {l : List α} {k : Nat} {x : α} (h : l[k]? = some x) : l.take (k + 1) = l.take k ++ [x] := by
  rw [List.take_add_one, h]
  rfl
theorem drop_at {α : Type} {l : List α} {k : Nat} {x : α} (hx : l[k]? = some x) : l.drop k = x :: l.drop (k + 1) := by
  have hlt := (List.getElem?_eq_some_iff.1 hx).1
  rw [List.drop_eq_getElem_cons hlt, (List.getElem?_eq_some_iff.1 hx).2]
theorem sws_at {l : List Sw} {k : Nat} {x : Sw} {ps : List Po} {acs : List Ac} (hx : l[k]? = some x) : swsMay ⟨l.take k, ps, acs⟩ (l.drop k) = (decide (swFault ⟨l.take k, ps, acs⟩ x = 0) && swsMay ⟨l.take (k + 1), ps, acs⟩ (l.drop (k + 1))) := by
  rw [drop_at hx, swsMay, take_snoc hx]
theorem pos_at {l : List Po} {k : Nat} {x : Po} {ss : List Sw} {acs : List Ac} (hx : l[k]? = some x) : posMay ⟨ss, l.take k, acs⟩ (l.drop k) = (decide (poFault ⟨ss, l.take k, acs⟩ x = 0) && posMay ⟨ss, l.take (k + 1), acs⟩ (l.drop (k + 1))) := by
  rw [drop_at hx, posMay, take_snoc hx]
theorem acs_at {l : List Ac} {k : Nat} {x : Ac} {ss : List Sw} {ps : List Po} (hx : l[k]? = some x) : acsMay ⟨ss, ps, l.take k⟩ (l.drop k) = (decide (acFault ⟨ss, ps, l.take k⟩ x = 0) && acsMay ⟨ss, ps, l.take (k + 1)⟩ (l.drop (k + 1))) := by
  rw [drop_at hx, acsMay, take_snoc hx]
theorem cut_small {c : Cf} (hl : c.Small) (i j k : Nat) : Cf.Small ⟨c.ss.take i, c.ps.take j, c.acs.take k⟩ :=
  ⟨Nat.lt_of_le_of_lt (List.length_take_le' _ _) hl.1, Nat.lt_of_le_of_lt (List.length_take_le' _ _) hl.2.1, Nat.lt_of_le_of_lt (List.length_take_le' _ _) hl.2.2⟩
theorem int_ne {a : Int} (h : (a != 0) = true) : a ≠ 0 := by simpa using h
theorem int_eq {a : Int} (h : (a != 0) = false) : a = 0 := by simpa using h

set_option maxHeartbeats 4000000 in
theorem confCheck_T (c : Cf) (hl : c.Small) : Fun Tryz.prog 36 [.agg ((encCf c).map .fv)] (.fv (.int .i64 (if cfMay c = true then 0 else 8))) := by
  have hl1 := hl.1
  have hl2 := hl.2.1
  have hl3 := hl.2.2
  refine Fun.body tbl_ok Tryz.func36 rfl (by kernel_rfl) rfl rfl rfl ?_
  repeat' (first | refine X.loc ?_ | refine nx ?_ | (refine WP.condBit rfl ?_ ?_) | (refine WP.cond rfl ?_ ?_ <;> intro hcond) | refine rb ?_ | refine nd ?_ | refine dk ?_ | fail)
  refine WP.loop (ι := Nat) (fun k => ⟨[(1, .optr 1 0), (3, .optr 3 0), (12, .fv (slOf encSw c.ss)), (13, .fv (.int .i64 c.ss.length)), (14, .fv (.int .i64 k))], [ (1, .box 26 ((encCf c).map .fv)), (3, .box 26 [.osl 900, .nil, .nil]), (900, .row 44 3 (c.ss.take k).length (((c.ss.take k).flatMap encSw).map .fv))]⟩)
    (fun k => k ≤ c.ss.length ∧ k ≤ 12 ∧ swsMay ⟨[], [], []⟩ c.ss = swsMay ⟨c.ss.take k, [], []⟩ (c.ss.drop k)) (fun k => c.ss.length - k) 0 ⟨by omega, by omega, rfl⟩ ?_ ?_
  · skip
    refine St.to [(900, .nil)] [] rfl rfl ?_ ?_ <;> (repeat' (first | exact tA | refine t1 ?_ | exact tB | refine t2 ?_ ?_ | refine t3 ?_ | refine t4 ?_ ?_ | refine .ofEq ?_ | refine OB.To.cut rfl rfl ?_ ?_ ?_ ?_ | refine OB.To.box rfl rfl ?_ | refine ⟨⟨_, rfl, ?_⟩, ?_⟩ | refine ⟨?_, ?_⟩ | fail))
  rintro k ⟨hk, hk12, hd⟩
  try dsimp only
  have hlen : (c.ss.take k).length ≤ 12 := by simp; omega
  by_cases hlt : k < c.ss.length
  case pos =>
    obtain ⟨x, hx⟩ : ∃ x, c.ss[k]? = some x := ⟨_, List.getElem?_eq_getElem hlt⟩
    have hat := sws_at (ps := []) (acs := []) hx
    have hsm : Cf.Small ⟨c.ss.take k, [], []⟩ := by have := cut_small hl k 0 0; simpa using this
    repeat' (first | (apply X.loE; (· exact aR); (· first | (exact .eff (.idxS rfl rfl rfl encSw_len hx)) | exact .callL rfl rfl rfl (addSwitch_T ⟨c.ss.take k, [], []⟩ x hsm (by intro p hp; simp at hp) hlen) rfl | exact bl (addSwitch_T ⟨c.ss.take k, [], []⟩ x hsm (by intro p hp; simp at hp) hlen))) | refine X.loc ?_ | refine nx ?_ | (refine WP.condBit rfl ?_ ?_) | (refine WP.cond rfl ?_ ?_ <;> intro hcond) | (apply X.gsE; (· exact aR); (· exact aV); (· exact aW); (· intro hc; first | (exact .eff (.idxS rfl rfl rfl encSw_len hx)) | exact .callG rfl rfl rfl (addSwitch_T ⟨c.ss.take k, [], []⟩ x hsm (by intro p hp; simp at hp) hlen) rfl | exact bg (addSwitch_T ⟨c.ss.take k, [], []⟩ x hsm (by intro p hp; simp at hp) hlen)); (· exact aR)) | refine rb ?_ | refine nd ?_ | refine dk ?_ | fail)
    · refine .f1 (.inl rfl) rfl ?_
      have : cfMay c = false := by
        unfold cfMay
        rw [hd, hat, decide_eq_false (int_ne hcond)]
        rfl
      rw [this]
      rfl
    · have h0 := int_eq hcond
      have := swFault_lt h0
      refine ⟨k + 1, ⟨by omega, by simp at this; omega, ?_⟩, by omega, ?_⟩
      · rw [hd, hat, decide_eq_true h0]
        rfl
      · skip
        refine St.to [(900, .id 26)] [] rfl rfl ?_ ?_ <;> (repeat' (first | exact tA | refine t1 ?_ | exact tB | refine t2 ?_ ?_ | refine t3 ?_ | refine t4 ?_ ?_ | refine .ofEq ?_ | refine OB.To.cut rfl rfl ?_ ?_ ?_ ?_ | refine OB.To.box rfl rfl ?_ | refine ⟨⟨_, rfl, ?_⟩, ?_⟩ | refine ⟨?_, ?_⟩ | fail))
        all_goals first | exact (take_len hx).symm | (rw [take_flat hx, List.map_append]; rfl)
    · exfalso
      simp at hcond
      omega
  case neg =>
    have hek : k = c.ss.length := by omega
    subst hek
    rw [List.drop_of_length_le (Nat.le_refl _)] at hd
    have hsw : swsMay ⟨[], [], []⟩ c.ss = true := hd
    repeat' (first | refine X.loc ?_ | refine nx ?_ | (refine WP.condBit rfl ?_ ?_) | (refine WP.cond rfl ?_ ?_ <;> intro hcond) | refine rb ?_ | refine nd ?_ | refine dk ?_ | fail)
    · exfalso
      simp at hcond
    refine WP.loop (ι := Nat) (fun k => ⟨[(1, .optr 1 0), (3, .optr 3 0), (30, .fv (slOf encPo c.ps)), (31, .fv (.int .i64 c.ps.length)), (32, .fv (.int .i64 k))], [ (1, .box 26 ((encCf c).map .fv)), (3, .box 26 [.osl 900, .osl 901, .nil]), (900, .row 44 3 c.ss.length ((c.ss.flatMap encSw).map .fv)), (901, .row 69 5 (c.ps.take k).length (((c.ps.take k).flatMap encPo).map .fv))]⟩)
      (fun k => k ≤ c.ps.length ∧ k ≤ 40 ∧ Cf.Wf ⟨c.ss, c.ps.take k, []⟩ ∧ posMay ⟨c.ss, [], []⟩ c.ps = posMay ⟨c.ss, c.ps.take k, []⟩ (c.ps.drop k)) (fun k => c.ps.length - k) 0 ⟨by omega, by omega, (by intro p hp; simp at hp), rfl⟩ ?_ ?_
    · skip
      refine St.to [(901, .nil)] [] rfl rfl ?_ ?_ <;> (repeat' (first | exact tA | refine t1 ?_ | exact tB | refine t2 ?_ ?_ | refine t3 ?_ | refine t4 ?_ ?_ | refine .ofEq ?_ | refine OB.To.cut rfl rfl ?_ ?_ ?_ ?_ | refine OB.To.box rfl rfl ?_ | refine ⟨⟨_, rfl, ?_⟩, ?_⟩ | refine ⟨?_, ?_⟩ | fail))
      all_goals rw [List.take_of_length_le (Nat.le_refl _)]
    rintro k ⟨hk, hk40, hwf, hd⟩
    try dsimp only
    have hlen : (c.ps.take k).length ≤ 40 := by simp; omega
    by_cases hlt : k < c.ps.length
    case pos =>
      obtain ⟨x, hx⟩ : ∃ x, c.ps[k]? = some x := ⟨_, List.getElem?_eq_getElem hlt⟩
      have hat := pos_at (ss := c.ss) (acs := []) hx
      have hsm : Cf.Small ⟨c.ss, c.ps.take k, []⟩ := by have := cut_small hl c.ss.length k 0; simpa using this
      repeat' (first | (apply X.loE; (· exact aR); (· first | (exact .eff (.idxS rfl rfl rfl encPo_len hx)) | exact .callL rfl rfl rfl (addPort_T ⟨c.ss, c.ps.take k, []⟩ x hsm hwf hlen) rfl | exact bl (addPort_T ⟨c.ss, c.ps.take k, []⟩ x hsm hwf hlen))) | refine X.loc ?_ | refine nx ?_ | (refine WP.condBit rfl ?_ ?_) | (refine WP.cond rfl ?_ ?_ <;> intro hcond) | (apply X.gsE; (· exact aR); (· exact aV); (· exact aW); (· intro hc; first | (exact .eff (.idxS rfl rfl rfl encPo_len hx)) | exact .callG rfl rfl rfl (addPort_T ⟨c.ss, c.ps.take k, []⟩ x hsm hwf hlen) rfl | exact bg (addPort_T ⟨c.ss, c.ps.take k, []⟩ x hsm hwf hlen)); (· exact aR)) | refine rb ?_ | refine nd ?_ | refine dk ?_ | fail)
      · refine .f1 (.inl rfl) rfl ?_
        have : cfMay c = false := by
          unfold cfMay
          rw [hd, hat, decide_eq_false (int_ne hcond), hsw]
          rfl
        rw [this]
        rfl
      · have h0 := int_eq hcond
        have := poFault_lt h0
        refine ⟨k + 1, ⟨by omega, by have := this.1; simp at this; omega, ?_, ?_⟩, by omega, ?_⟩
        · exact take_all (p := fun p : Po => c.ss.any (fun x => x.id == p.sw) = true) hx hwf this.2
        · rw [hd, hat, decide_eq_true h0]
          rfl
        · skip
          refine St.to [(901, .id 44)] [] rfl rfl ?_ ?_ <;> (repeat' (first | exact tA | refine t1 ?_ | exact tB | refine t2 ?_ ?_ | refine t3 ?_ | refine t4 ?_ ?_ | refine .ofEq ?_ | refine OB.To.cut rfl rfl ?_ ?_ ?_ ?_ | refine OB.To.box rfl rfl ?_ | refine ⟨⟨_, rfl, ?_⟩, ?_⟩ | refine ⟨?_, ?_⟩ | fail))
          all_goals first | exact (take_len hx).symm | (rw [take_flat hx, List.map_append]; rfl)
      · exfalso
        simp at hcond
        omega
    case neg =>
      have hek : k = c.ps.length := by omega
      subst hek
      rw [List.drop_of_length_le (Nat.le_refl _)] at hd
      have hpo : posMay ⟨c.ss, [], []⟩ c.ps = true := hd
      repeat' (first | refine X.loc ?_ | refine nx ?_ | (refine WP.condBit rfl ?_ ?_) | (refine WP.cond rfl ?_ ?_ <;> intro hcond) | refine rb ?_ | refine nd ?_ | refine dk ?_ | fail)
      · exfalso
        simp at hcond
      refine WP.loop (ι := Nat) (fun k => ⟨[(1, .optr 1 0), (3, .optr 3 0), (48, .fv (slOf encAc c.acs)), (49, .fv (.int .i64 c.acs.length)), (50, .fv (.int .i64 k))], [ (1, .box 26 ((encCf c).map .fv)), (3, .box 26 [.osl 900, .osl 901, .osl 902]), (900, .row 44 3 c.ss.length ((c.ss.flatMap encSw).map .fv)), (901, .row 69 5 c.ps.length ((c.ps.flatMap encPo).map .fv)), (902, .row 38 9 (c.acs.take k).length (((c.acs.take k).flatMap encAc).map .fv))]⟩)
        (fun k => k ≤ c.acs.length ∧ k ≤ 40 ∧ acsMay ⟨c.ss, c.ps, []⟩ c.acs = acsMay ⟨c.ss, c.ps, c.acs.take k⟩ (c.acs.drop k)) (fun k => c.acs.length - k) 0 ⟨by omega, by omega, rfl⟩ ?_ ?_
      · skip
        refine St.to [(902, .nil)] [] rfl rfl ?_ ?_ <;> (repeat' (first | exact tA | refine t1 ?_ | exact tB | refine t2 ?_ ?_ | refine t3 ?_ | refine t4 ?_ ?_ | refine .ofEq ?_ | refine OB.To.cut rfl rfl ?_ ?_ ?_ ?_ | refine OB.To.box rfl rfl ?_ | refine ⟨⟨_, rfl, ?_⟩, ?_⟩ | refine ⟨?_, ?_⟩ | fail))
        all_goals rw [List.take_of_length_le (Nat.le_refl _)]
      rintro k ⟨hk, hk40, hd⟩
      try dsimp only
      have hlen : (c.acs.take k).length ≤ 40 := by simp; omega
      by_cases hlt : k < c.acs.length
      case pos =>
        obtain ⟨x, hx⟩ : ∃ x, c.acs[k]? = some x := ⟨_, List.getElem?_eq_getElem hlt⟩
        have hat := acs_at (ss := c.ss) (ps := c.ps) hx
        have hsm : Cf.Small ⟨c.ss, c.ps, c.acs.take k⟩ := by have := cut_small hl c.ss.length c.ps.length k; simpa using this
        repeat' (first | (apply X.loE; (· exact aR); (· first | (exact .eff (.idxS rfl rfl rfl encAc_len hx)) | exact .callL rfl rfl rfl (addAcl_T ⟨c.ss, c.ps, c.acs.take k⟩ x hsm hlen) rfl | exact bl (addAcl_T ⟨c.ss, c.ps, c.acs.take k⟩ x hsm hlen))) | refine X.loc ?_ | refine nx ?_ | (refine WP.condBit rfl ?_ ?_) | (refine WP.cond rfl ?_ ?_ <;> intro hcond) | (apply X.gsE; (· exact aR); (· exact aV); (· exact aW); (· intro hc; first | (exact .eff (.idxS rfl rfl rfl encAc_len hx)) | exact .callG rfl rfl rfl (addAcl_T ⟨c.ss, c.ps, c.acs.take k⟩ x hsm hlen) rfl | exact bg (addAcl_T ⟨c.ss, c.ps, c.acs.take k⟩ x hsm hlen)); (· exact aR)) | refine rb ?_ | refine nd ?_ | refine dk ?_ | fail)
        · refine .f1 (.inl rfl) rfl ?_
          have : cfMay c = false := by
            unfold cfMay
            rw [hd, hat, decide_eq_false (int_ne hcond), hsw, hpo]
            rfl
          rw [this]
          rfl
        · have h0 := int_eq hcond
          have := acFault_lt h0
          refine ⟨k + 1, ⟨by omega, by simp at this; omega, ?_⟩, by omega, ?_⟩
          · rw [hd, hat, decide_eq_true h0]
            rfl
          · skip
            refine St.to [(902, .id 62)] [] rfl rfl ?_ ?_ <;> (repeat' (first | exact tA | refine t1 ?_ | exact tB | refine t2 ?_ ?_ | refine t3 ?_ | refine t4 ?_ ?_ | refine .ofEq ?_ | refine OB.To.cut rfl rfl ?_ ?_ ?_ ?_ | refine OB.To.box rfl rfl ?_ | refine ⟨⟨_, rfl, ?_⟩, ?_⟩ | refine ⟨?_, ?_⟩ | fail))
            all_goals first | exact (take_len hx).symm | (rw [take_flat hx, List.map_append]; rfl)
        · exfalso
          simp at hcond
          omega
      case neg =>
        have hek : k = c.acs.length := by omega
        subst hek
        rw [List.drop_of_length_le (Nat.le_refl _)] at hd
        have hac : acsMay ⟨c.ss, c.ps, []⟩ c.acs = true := hd
        have hall : cfMay c = true := by
          unfold cfMay
          rw [hsw, hpo, hac]
          rfl
        repeat' (first | refine X.loc ?_ | refine nx ?_ | (refine WP.condBit rfl ?_ ?_) | (refine WP.cond rfl ?_ ?_ <;> intro hcond) | refine rb ?_ | refine nd ?_ | refine dk ?_ | fail)
        · exfalso
          simp at hcond
        · refine .f1 (.inl rfl) rfl ?_
          rw [hall]
          rfl
end Go.Proofs.YtmidechdlbcepaaGreat

namespace Go.Proofs.YtmidechdlbcepaaGreat
open Go.RowKit
set_option maxRecDepth 100000

set_option maxHeartbeats 4000000 in
theorem confMay_T (c : Cf) (hl : c.Small) : Fun Tryz.prog 47 [.agg ((encCf c).map .fv)] (.fv (.bool (cfMay c))) := by
  have hl1 := hl.1
  have hl2 := hl.2.1
  have hl3 := hl.2.2
  refine Fun.body tbl_ok Tryz.func47 rfl (by kernel_rfl) rfl rfl rfl ?_
  repeat' (first | refine X.loc ?_ | refine nx ?_ | (refine WP.condBit rfl ?_ ?_) | (refine WP.cond rfl ?_ ?_ <;> intro hcond) | refine rb ?_ | refine nd ?_ | refine dk ?_ | fail)
  refine WP.loop (ι := Nat) (fun k => ⟨[(1, .optr 1 0), (3, .optr 3 0), (4, .fv (.int .i64 k))], [ (1, .box 26 ((encCf c).map .fv)), (3, .box 26 [.osl 900, .nil, .nil]), (900, .row 44 3 (c.ss.take k).length (((c.ss.take k).flatMap encSw).map .fv))]⟩)
    (fun k => k ≤ c.ss.length ∧ k ≤ 12 ∧ swsMay ⟨[], [], []⟩ c.ss = swsMay ⟨c.ss.take k, [], []⟩ (c.ss.drop k)) (fun k => c.ss.length - k) 0 ⟨by omega, by omega, rfl⟩ ?_ ?_
  · skip
    refine St.to [(900, .nil)] [] rfl rfl ?_ ?_ <;> (repeat' (first | exact tA | refine t1 ?_ | exact tB | refine t2 ?_ ?_ | refine t3 ?_ | refine t4 ?_ ?_ | refine .ofEq ?_ | refine OB.To.cut rfl rfl ?_ ?_ ?_ ?_ | refine OB.To.box rfl rfl ?_ | refine ⟨⟨_, rfl, ?_⟩, ?_⟩ | refine ⟨?_, ?_⟩ | fail))
  rintro k ⟨hk, hk12, hd⟩
  try dsimp only
  have hlen : (c.ss.take k).length ≤ 12 := by simp; omega
  by_cases hlt : k < c.ss.length
  case pos =>
    obtain ⟨x, hx⟩ : ∃ x, c.ss[k]? = some x := ⟨_, List.getElem?_eq_getElem hlt⟩
    have hat := sws_at (ps := []) (acs := []) hx
    have hsm : Cf.Small ⟨c.ss.take k, [], []⟩ := by have := cut_small hl k 0 0; simpa using this
    repeat' (first | (apply X.loE; (· exact aR); (· first | (exact .eff (.idxS rfl rfl rfl encSw_len hx)) | exact .callL rfl rfl rfl (switchFault_T ⟨c.ss.take k, [], []⟩ x hsm) rfl | exact bl (switchFault_T ⟨c.ss.take k, [], []⟩ x hsm))) | refine X.loc ?_ | refine nx ?_ | (refine WP.condBit rfl ?_ ?_) | (refine WP.cond rfl ?_ ?_ <;> intro hcond) | (apply X.gsE; (· exact aR); (· exact aV); (· exact aW); (· intro hc; first | (exact .eff (.idxS rfl rfl rfl encSw_len hx)) | exact .callG rfl rfl rfl (switchFault_T ⟨c.ss.take k, [], []⟩ x hsm) rfl | exact bg (switchFault_T ⟨c.ss.take k, [], []⟩ x hsm)); (· exact aR)) | refine rb ?_ | refine nd ?_ | refine dk ?_ | fail)
    · refine .f1 (.inl rfl) rfl ?_
      have : cfMay c = false := by
        unfold cfMay
        rw [hd, hat, decide_eq_false (int_ne hcond)]
        rfl
      rw [this]
    · have h0 := int_eq hcond
      have := swFault_lt h0
      refine ⟨k + 1, ⟨by omega, by simp at this; omega, ?_⟩, by omega, ?_⟩
      · rw [hd, hat, decide_eq_true h0]
        rfl
      · skip
        refine St.to [(900, .id 31)] [] rfl rfl ?_ ?_ <;> (repeat' (first | exact tA | refine t1 ?_ | exact tB | refine t2 ?_ ?_ | refine t3 ?_ | refine t4 ?_ ?_ | refine .ofEq ?_ | refine OB.To.cut rfl rfl ?_ ?_ ?_ ?_ | refine OB.To.box rfl rfl ?_ | refine ⟨⟨_, rfl, ?_⟩, ?_⟩ | refine ⟨?_, ?_⟩ | fail))
        all_goals first | exact (take_len hx).symm | (rw [take_flat hx, List.map_append]; rfl)
    · exfalso
      simp at hcond
      omega
  case neg =>
    have hek : k = c.ss.length := by omega
    subst hek
    rw [List.drop_of_length_le (Nat.le_refl _)] at hd
    have hsw : swsMay ⟨[], [], []⟩ c.ss = true := hd
    repeat' (first | refine X.loc ?_ | refine nx ?_ | (refine WP.condBit rfl ?_ ?_) | (refine WP.cond rfl ?_ ?_ <;> intro hcond) | refine rb ?_ | refine nd ?_ | refine dk ?_ | fail)
    · exfalso
      simp at hcond
    refine WP.loop (ι := Nat) (fun k => ⟨[(1, .optr 1 0), (3, .optr 3 0), (5, .fv (.int .i64 k))], [ (1, .box 26 ((encCf c).map .fv)), (3, .box 26 [.osl 900, .osl 901, .nil]), (900, .row 44 3 c.ss.length ((c.ss.flatMap encSw).map .fv)), (901, .row 69 5 (c.ps.take k).length (((c.ps.take k).flatMap encPo).map .fv))]⟩)
      (fun k => k ≤ c.ps.length ∧ k ≤ 40 ∧ Cf.Wf ⟨c.ss, c.ps.take k, []⟩ ∧ posMay ⟨c.ss, [], []⟩ c.ps = posMay ⟨c.ss, c.ps.take k, []⟩ (c.ps.drop k)) (fun k => c.ps.length - k) 0 ⟨by omega, by omega, (by intro p hp; simp at hp), rfl⟩ ?_ ?_
    · skip
      refine St.to [(901, .nil)] [] rfl rfl ?_ ?_ <;> (repeat' (first | exact tA | refine t1 ?_ | exact tB | refine t2 ?_ ?_ | refine t3 ?_ | refine t4 ?_ ?_ | refine .ofEq ?_ | refine OB.To.cut rfl rfl ?_ ?_ ?_ ?_ | refine OB.To.box rfl rfl ?_ | refine ⟨⟨_, rfl, ?_⟩, ?_⟩ | refine ⟨?_, ?_⟩ | fail))
      all_goals rw [List.take_of_length_le (Nat.le_refl _)]
    rintro k ⟨hk, hk40, hwf, hd⟩
    try dsimp only
    have hlen : (c.ps.take k).length ≤ 40 := by simp; omega
    by_cases hlt : k < c.ps.length
    case pos =>
      obtain ⟨x, hx⟩ : ∃ x, c.ps[k]? = some x := ⟨_, List.getElem?_eq_getElem hlt⟩
      have hat := pos_at (ss := c.ss) (acs := []) hx
      have hsm : Cf.Small ⟨c.ss, c.ps.take k, []⟩ := by have := cut_small hl c.ss.length k 0; simpa using this
      repeat' (first | (apply X.loE; (· exact aR); (· first | (exact .eff (.idxS rfl rfl rfl encPo_len hx)) | exact .callL rfl rfl rfl (portFault_T ⟨c.ss, c.ps.take k, []⟩ x hsm) rfl | exact bl (portFault_T ⟨c.ss, c.ps.take k, []⟩ x hsm))) | refine X.loc ?_ | refine nx ?_ | (refine WP.condBit rfl ?_ ?_) | (refine WP.cond rfl ?_ ?_ <;> intro hcond) | (apply X.gsE; (· exact aR); (· exact aV); (· exact aW); (· intro hc; first | (exact .eff (.idxS rfl rfl rfl encPo_len hx)) | exact .callG rfl rfl rfl (portFault_T ⟨c.ss, c.ps.take k, []⟩ x hsm) rfl | exact bg (portFault_T ⟨c.ss, c.ps.take k, []⟩ x hsm)); (· exact aR)) | refine rb ?_ | refine nd ?_ | refine dk ?_ | fail)
      · refine .f1 (.inl rfl) rfl ?_
        have : cfMay c = false := by
          unfold cfMay
          rw [hd, hat, decide_eq_false (int_ne hcond), hsw]
          rfl
        rw [this]
      · have h0 := int_eq hcond
        have := poFault_lt h0
        refine ⟨k + 1, ⟨by omega, by have := this.1; simp at this; omega, ?_, ?_⟩, by omega, ?_⟩
        · exact take_all (p := fun p : Po => c.ss.any (fun x => x.id == p.sw) = true) hx hwf this.2
        · rw [hd, hat, decide_eq_true h0]
          rfl
        · skip
          refine St.to [(901, .id 56)] [] rfl rfl ?_ ?_ <;> (repeat' (first | exact tA | refine t1 ?_ | exact tB | refine t2 ?_ ?_ | refine t3 ?_ | refine t4 ?_ ?_ | refine .ofEq ?_ | refine OB.To.cut rfl rfl ?_ ?_ ?_ ?_ | refine OB.To.box rfl rfl ?_ | refine ⟨⟨_, rfl, ?_⟩, ?_⟩ | refine ⟨?_, ?_⟩ | fail))
          all_goals first | exact (take_len hx).symm | (rw [take_flat hx, List.map_append]; rfl)
      · exfalso
        simp at hcond
        omega
    case neg =>
      have hek : k = c.ps.length := by omega
      subst hek
      rw [List.drop_of_length_le (Nat.le_refl _)] at hd
      have hpo : posMay ⟨c.ss, [], []⟩ c.ps = true := hd
      repeat' (first | refine X.loc ?_ | refine nx ?_ | (refine WP.condBit rfl ?_ ?_) | (refine WP.cond rfl ?_ ?_ <;> intro hcond) | refine rb ?_ | refine nd ?_ | refine dk ?_ | fail)
      · exfalso
        simp at hcond
      refine WP.loop (ι := Nat) (fun k => ⟨[(1, .optr 1 0), (3, .optr 3 0), (6, .fv (.int .i64 k))], [ (1, .box 26 ((encCf c).map .fv)), (3, .box 26 [.osl 900, .osl 901, .osl 902]), (900, .row 44 3 c.ss.length ((c.ss.flatMap encSw).map .fv)), (901, .row 69 5 c.ps.length ((c.ps.flatMap encPo).map .fv)), (902, .row 38 9 (c.acs.take k).length (((c.acs.take k).flatMap encAc).map .fv))]⟩)
        (fun k => k ≤ c.acs.length ∧ k ≤ 40 ∧ acsMay ⟨c.ss, c.ps, []⟩ c.acs = acsMay ⟨c.ss, c.ps, c.acs.take k⟩ (c.acs.drop k)) (fun k => c.acs.length - k) 0 ⟨by omega, by omega, rfl⟩ ?_ ?_
      · skip
        refine St.to [(902, .nil)] [] rfl rfl ?_ ?_ <;> (repeat' (first | exact tA | refine t1 ?_ | exact tB | refine t2 ?_ ?_ | refine t3 ?_ | refine t4 ?_ ?_ | refine .ofEq ?_ | refine OB.To.cut rfl rfl ?_ ?_ ?_ ?_ | refine OB.To.box rfl rfl ?_ | refine ⟨⟨_, rfl, ?_⟩, ?_⟩ | refine ⟨?_, ?_⟩ | fail))
        all_goals rw [List.take_of_length_le (Nat.le_refl _)]
      rintro k ⟨hk, hk40, hd⟩
      try dsimp only
      have hlen : (c.acs.take k).length ≤ 40 := by simp; omega
      by_cases hlt : k < c.acs.length
      case pos =>
        obtain ⟨x, hx⟩ : ∃ x, c.acs[k]? = some x := ⟨_, List.getElem?_eq_getElem hlt⟩
        have hat := acs_at (ss := c.ss) (ps := c.ps) hx
        have hsm : Cf.Small ⟨c.ss, c.ps, c.acs.take k⟩ := by have := cut_small hl c.ss.length c.ps.length k; simpa using this
        repeat' (first | (apply X.loE; (· exact aR); (· first | (exact .eff (.idxS rfl rfl rfl encAc_len hx)) | exact .callL rfl rfl rfl (aclFault_T ⟨c.ss, c.ps, c.acs.take k⟩ x hsm) rfl | exact bl (aclFault_T ⟨c.ss, c.ps, c.acs.take k⟩ x hsm))) | refine X.loc ?_ | refine nx ?_ | (refine WP.condBit rfl ?_ ?_) | (refine WP.cond rfl ?_ ?_ <;> intro hcond) | (apply X.gsE; (· exact aR); (· exact aV); (· exact aW); (· intro hc; first | (exact .eff (.idxS rfl rfl rfl encAc_len hx)) | exact .callG rfl rfl rfl (aclFault_T ⟨c.ss, c.ps, c.acs.take k⟩ x hsm) rfl | exact bg (aclFault_T ⟨c.ss, c.ps, c.acs.take k⟩ x hsm)); (· exact aR)) | refine rb ?_ | refine nd ?_ | refine dk ?_ | fail)
        · refine .f1 (.inl rfl) rfl ?_
          have : cfMay c = false := by
            unfold cfMay
            rw [hd, hat, decide_eq_false (int_ne hcond), hsw, hpo]
            rfl
          rw [this]
        · have h0 := int_eq hcond
          have := acFault_lt h0
          refine ⟨k + 1, ⟨by omega, by simp at this; omega, ?_⟩, by omega, ?_⟩
          · rw [hd, hat, decide_eq_true h0]
            rfl
          · skip
            refine St.to [(902, .id 81)] [] rfl rfl ?_ ?_ <;> (repeat' (first | exact tA | refine t1 ?_ | exact tB | refine t2 ?_ ?_ | refine t3 ?_ | refine t4 ?_ ?_ | refine .ofEq ?_ | refine OB.To.cut rfl rfl ?_ ?_ ?_ ?_ | refine OB.To.box rfl rfl ?_ | refine ⟨⟨_, rfl, ?_⟩, ?_⟩ | refine ⟨?_, ?_⟩ | fail))
            all_goals first | exact (take_len hx).symm | (rw [take_flat hx, List.map_append]; rfl)
        · exfalso
          simp at hcond
          omega
      case neg =>
        have hek : k = c.acs.length := by omega
        subst hek
        rw [List.drop_of_length_le (Nat.le_refl _)] at hd
        have hac : acsMay ⟨c.ss, c.ps, []⟩ c.acs = true := hd
        have hall : cfMay c = true := by
          unfold cfMay
          rw [hsw, hpo, hac]
          rfl
        repeat' (first | refine X.loc ?_ | refine nx ?_ | (refine WP.condBit rfl ?_ ?_) | (refine WP.cond rfl ?_ ?_ <;> intro hcond) | refine rb ?_ | refine nd ?_ | refine dk ?_ | fail)
        · exfalso
          simp at hcond
        · refine .f1 (.inl rfl) rfl ?_
          rw [hall]
end Go.Proofs.YtmidechdlbcepaaGreat

namespace Go.Proofs.YtmidechdlbcepaaGreat
open Go.RowKit
set_option maxRecDepth 100000

theorem clonePo_T (l : List Po) (hl : l.length * 40 ≤ 140737488355328) : FunO Tryz.prog 61 [.fv (slOf encPo l)] [] (.osl 7) [(7, .row 69 5 l.length ((l.flatMap encPo).map .fv))] := by
  refine FunO.bodyL tbl_ok Tryz.func61 rfl (by kernel_rfl) rfl rfl rfl ?_
  rcases Nat.eq_zero_or_pos l.length with h0 | h0
  · obtain rfl := List.eq_nil_of_length_eq_zero h0
    repeat' (first | refine X.loc ?_ | refine nx ?_ | (refine WP.condBit rfl ?_ ?_) | (refine WP.cond rfl ?_ ?_ <;> intro hcond) | refine rb ?_ | refine nd ?_ | refine dk ?_ | fail)
    · skip
      refine .ofL (s' := ⟨[(2, .osl 7)], [(7, .row 69 5 0 [])]⟩) (by first | exact .inl rfl | exact .inr rfl) ?_ rfl rfl (by repeat' (first | exact trivial | refine ⟨⟨_, rfl, fun _ _ _ _ h => h⟩, ?_⟩))
      refine St.to [(7, .nil)] [] rfl rfl ?_ ?_ <;> (repeat' (first | exact tA | refine t1 ?_ | exact tB | refine t2 ?_ ?_ | refine t3 ?_ | refine t4 ?_ ?_ | refine .ofEq ?_ | refine OB.To.cut rfl rfl ?_ ?_ ?_ ?_ | refine OB.To.box rfl rfl ?_ | refine ⟨⟨_, rfl, ?_⟩, ?_⟩ | refine ⟨?_, ?_⟩ | fail))
    · skip
      refine .ofL (s' := ⟨[(2, .osl 7)], [(7, .row 69 5 0 [])]⟩) (by first | exact .inl rfl | exact .inr rfl) ?_ rfl rfl (by repeat' (first | exact trivial | refine ⟨⟨_, rfl, fun _ _ _ _ h => h⟩, ?_⟩))
      refine St.to [(7, .id 7)] [] rfl rfl ?_ ?_ <;> (repeat' (first | exact tA | refine t1 ?_ | exact tB | refine t2 ?_ ?_ | refine t3 ?_ | refine t4 ?_ ?_ | refine .ofEq ?_ | refine OB.To.cut rfl rfl ?_ ?_ ?_ ?_ | refine OB.To.box rfl rfl ?_ | refine ⟨⟨_, rfl, ?_⟩, ?_⟩ | refine ⟨?_, ?_⟩ | fail))
      rfl
  · skip
    repeat' (first | refine X.loc ?_ | refine nx ?_ | (refine WP.condBit rfl ?_ ?_) | (refine WP.cond rfl ?_ ?_ <;> intro hcond) | refine rb ?_ | refine nd ?_ | refine dk ?_ | fail)
    refine .ofL (s' := ⟨[(2, .osl 7)], [(7, .row 69 5 l.length ((l.flatMap encPo).map .fv))]⟩) (by first | exact .inl rfl | exact .inr rfl) ?_ rfl rfl (by repeat' (first | exact trivial | refine ⟨⟨_, rfl, fun _ _ _ _ h => h⟩, ?_⟩))
    refine St.to [(7, .id 7)] [] rfl rfl ?_ ?_ <;> (repeat' (first | exact tA | refine t1 ?_ | exact tB | refine t2 ?_ ?_ | refine t3 ?_ | refine t4 ?_ ?_ | refine .ofEq ?_ | refine OB.To.cut rfl rfl ?_ ?_ ?_ ?_ | refine OB.To.box rfl rfl ?_ | refine ⟨⟨_, rfl, ?_⟩, ?_⟩ | refine ⟨?_, ?_⟩ | fail))
    all_goals first | omega | simp
def Cf.Fit (c : Cf) : Prop := c.ss.length * 24 ≤ 140737488355328 ∧ c.ps.length * 40 ≤ 140737488355328 ∧ c.acs.length * 72 ≤ 140737488355328
theorem Cf.Fit.small {c : Cf} (h : c.Fit) : c.Small := by
  obtain ⟨h1, h2, h3⟩ := h
  exact ⟨by omega, by omega, by omega⟩
theorem clr_cells {cs1 us cs2 : List AV} {n : Nat} (h : setC cs1 n us = some cs2) : cs2.take n = cs1.take n := by
  obtain ⟨h1, rfl⟩ := setC_eq h
  rw [List.append_assoc, List.take_append_of_le_length (by rw [List.length_take]; omega), List.take_take, Nat.min_self]

end Go.Proofs.YtmidechdlbcepaaGreat

namespace Go.Proofs.YtmidechdlbcepaaGreat
open Go.RowKit
set_option maxRecDepth 100000

theorem is_T (a b : Int) : Fun Tryz.prog 128 [.fv (.int .i64 a), .fv (.int .i64 b)] (.agg ((encMx ⟨a, 65535, b⟩).map .fv)) := by
  refine Fun.body tbl_ok Tryz.func128 rfl (by kernel_rfl) rfl rfl rfl ?_
  repeat' (first | refine X.loc ?_ | refine nx ?_ | (refine WP.condBit rfl ?_ ?_) | (refine WP.cond rfl ?_ ?_ <;> intro hcond) | refine rb ?_ | refine nd ?_ | refine dk ?_ | fail)
  exact .fun (.inl rfl) rfl rfl
theorem to_T (a : Int) : Fun Tryz.prog 129 [.fv (.int .i64 a)] (.agg ((encDx ⟨4, 0, a⟩).map .fv)) := by
  refine Fun.body tbl_ok Tryz.func129 rfl (by kernel_rfl) rfl rfl rfl ?_
  repeat' (first | refine X.loc ?_ | refine nx ?_ | (refine WP.condBit rfl ?_ ?_) | (refine WP.cond rfl ?_ ?_ <;> intro hcond) | refine rb ?_ | refine nd ?_ | refine dk ?_ | fail)
  exact .fun (.inl rfl) rfl rfl
theorem put_T (a b : Int) : Fun Tryz.prog 131 [.fv (.int .i64 a), .fv (.int .i64 b)] (.agg ((encDx ⟨1, a, b⟩).map .fv)) := by
  refine Fun.body tbl_ok Tryz.func131 rfl (by kernel_rfl) rfl rfl rfl ?_
  repeat' (first | refine X.loc ?_ | refine nx ?_ | (refine WP.condBit rfl ?_ ?_) | (refine WP.cond rfl ?_ ?_ <;> intro hcond) | refine rb ?_ | refine nd ?_ | refine dk ?_ | fail)
  exact .fun (.inl rfl) rfl rfl
theorem copied_T (a b : Int) : Fun Tryz.prog 136 [.fv (.int .i64 a), .fv (.int .i64 b)] (.agg ((encDx ⟨2, a, b⟩).map .fv)) := by
  refine Fun.body tbl_ok Tryz.func136 rfl (by kernel_rfl) rfl rfl rfl ?_
  repeat' (first | refine X.loc ?_ | refine nx ?_ | (refine WP.condBit rfl ?_ ?_) | (refine WP.cond rfl ?_ ?_ <;> intro hcond) | refine rb ?_ | refine nd ?_ | refine dk ?_ | fail)
  exact .fun (.inl rfl) rfl rfl
def mkC (c : Cf) (ch : Int) (l : AV) : List AV := (encCf c).map .fv ++ [.fv (.int .i64 ch), l]
def mkB (c : Cf) (ch : Int) (g : Nat) : OB := .box 153 (mkC c ch (.osl g))
def flR (L : List Fl) : OB := .row 108 4 L.length ((L.flatMap encFl).map .fv)
theorem add_T (c : Cf) (ch : Int) (L : List Fl) (f : Fl) (hL : (L.length + 1) * 64 ≤ 140737488355328) : FunO Tryz.prog 127 [.optr 1000 0, .fv (.int .i64 f.table), .fv (.int .i64 f.prio), .fv (slOf encMx f.ms), .fv (slOf encDx f.ds)] [(1000, mkB c ch 1001), (1001, flR L)] (.tup []) [(1000, mkB c ch 7), (7, flR (L ++ [f]))] := by
  refine FunO.bodyL tbl_ok Tryz.func127 rfl (by kernel_rfl) rfl rfl rfl ?_
  unfold mkB flR mkC
  repeat' (first | refine X.loc ?_ | refine nx ?_ | refine X.cdT ?_ | refine X.cdF ?_ | (refine WP.condBit rfl ?_ ?_) | (refine WP.cond rfl ?_ ?_ <;> intro hcond) | refine rb ?_ | refine nd ?_ | refine dk ?_ | fail)
  refine .ofL (s' := ⟨[], [(1000, .box 153 ((encCf c).map .fv ++ [.fv (.int .i64 ch), .osl 7])), (7, .row 108 4 (L ++ [f]).length (((L ++ [f]).flatMap encFl).map .fv))]⟩) (by first | exact .inl rfl | exact .inr rfl) ?_ rfl rfl (by repeat' (first | exact trivial | refine ⟨⟨_, rfl, fun _ _ _ _ h => h⟩, ?_⟩))
  refine St.to [(7, .id 21)] [] rfl rfl ?_ ?_ <;> (repeat' (first | exact tA | refine t1 ?_ | exact tB | refine t2 ?_ ?_ | refine t3 ?_ | refine t4 ?_ ?_ | refine .ofEq ?_ | refine OB.To.cut rfl rfl ?_ ?_ ?_ ?_ | refine OB.To.box rfl rfl ?_ | refine ⟨⟨_, rfl, ?_⟩, ?_⟩ | refine ⟨?_, ?_⟩ | fail))
  all_goals first | omega | (simp; done) | (simp only [List.flatMap_append, List.map_append]; rfl)
end Go.Proofs.YtmidechdlbcepaaGreat

namespace Go.Proofs.YtmidechdlbcepaaGreat
open Go.RowKit
set_option maxRecDepth 100000

end Go.Proofs.YtmidechdlbcepaaGreat

namespace Go.Proofs.YtmidechdlbcepaaGreat
open Go.RowKit
set_option maxRecDepth 100000

theorem encB_len (u : UInt8) : (encB u).length = 1 := rfl
theorem u8_wrap (n : Nat) : IntKind.u8.wrap (n : Int) = ((UInt8.ofNat n).toNat : Int) := by
  simp [IntKind.wrap, IntKind.bits, IntKind.signed]
section
variable {T : Tbl} {ρ : Operand → AV} {H : Own} {d : Nat}
theorem Eff.convB {s t : Nat} {x : Operand} {k'' : IntKind} {n : Nat} (h1 : ρ x = .fv (.int .i64 (n : Int))) (h2 : lk T.kind t = some .u8) (h3 : lk T.kind s = some k'') : Eff T ρ H d (.convert s t x) (.fv (.int .u8 ((UInt8.ofNat n).toNat : Int))) [] := by
  have := Eff.conv (T := T) (H := H) (d := d) h1 h2 h3
  rwa [u8_wrap] at this
theorem Eff.conv8 {s t : Nat} {x : Operand} {k'' : IntKind} {u : UInt8} (h1 : ρ x = .fv (.int .u8 (u.toNat : Int))) (h2 : lk T.kind t = some .i64) (h3 : lk T.kind s = some k'') : Eff T ρ H d (.convert s t x) (.fv (.int .i64 (u.toNat : Int))) [] := by
  have := Eff.conv (T := T) (H := H) (d := d) h1 h2 h3
  have hu := u.toNat_lt
  rwa [I64.wrap (by omega) (by omega)] at this
theorem Eff.shrB {t u : Nat} {x y : Operand} {k' : IntKind} {n : Nat} (h1 : ρ x = .fv (.int .i64 (n : Int))) (h2 : ρ y = .fv (.int k' 8)) : Eff T ρ H d (.binOp .shr t x y u) (.fv (.int .i64 ((n / 256 : Nat) : Int))) [] := by
  have := Eff.shr (T := T) (H := H) (d := d) (t := t) (u := u) h1 h2 (by omega) (by decide)
  rwa [show ((n : Int) / 2 ^ (8 : Int).toNat) = ((n / 256 : Nat) : Int) by rw [Int.natCast_ediv]; rfl] at this
theorem Eff.shrW {t u : Nat} {x y : Operand} {k' : IntKind} {n : Nat} (h1 : ρ x = .fv (.int .i64 (n : Int))) (h2 : ρ y = .fv (.int k' 16)) : Eff T ρ H d (.binOp .shr t x y u) (.fv (.int .i64 ((n / 65536 : Nat) : Int))) [] := by
  have := Eff.shr (T := T) (H := H) (d := d) (t := t) (u := u) h1 h2 (by omega) (by decide)
  rwa [show ((n : Int) / 2 ^ (16 : Int).toNat) = ((n / 65536 : Nat) : Int) by rw [Int.natCast_ediv]; rfl] at this
theorem Eff.shlB {t u : Nat} {x y : Operand} {k' : IntKind} {n : Nat} (h1 : ρ x = .fv (.int .i64 (n : Int))) (h2 : ρ y = .fv (.int k' 8)) (h3 : n ≤ 65535) : Eff T ρ H d (.binOp .shl t x y u) (.fv (.int .i64 ((n * 256 : Nat) : Int))) [] := by
  have := Eff.shl (T := T) (H := H) (d := d) (t := t) (u := u) h1 h2 (by omega) (by decide)
  have e : ((n : Int) * 2 ^ (8 : Int).toNat) = ((n * 256 : Nat) : Int) := by rw [Int.natCast_mul]; rfl
  rwa [e, I64.wrap (by omega) (by omega)] at this
theorem Eff.andW {t u : Nat} {x : Operand} {n : Nat} (h1 : ρ x = .fv (.int .i64 (n : Int))) (h2 : ρ (.const (.int .i64 65535)) = .fv (.int .i64 65535)) (h3 : n ≤ 65280000) : Eff T ρ H d (.binOp .and t x (.const (.int .i64 65535)) u) (.fv (.int .i64 ((n % 65536 : Nat) : Int))) [] := by
  have := Eff.bin (T := T) (H := H) (d := d) (op := .and) (t := t) (u := u) h1 h2 rfl
  rwa [bits_and_word n h3, show (n : Int) % 65536 = ((n % 65536 : Nat) : Int) by omega] at this
theorem Eff.xorW {t u : Nat} {x : Operand} {n : Nat} (h1 : ρ x = .fv (.int .i64 (n : Int))) (h2 : ρ (.const (.int .i64 65535)) = .fv (.int .i64 65535)) (h3 : n ≤ 65535) : Eff T ρ H d (.binOp .xor t x (.const (.int .i64 65535)) u) (.fv (.int .i64 ((65535 - n : Nat) : Int))) [] := by
  have := Eff.bin (T := T) (H := H) (d := d) (op := .xor) (t := t) (u := u) h1 h2 rfl
  rwa [bits_xor_word n h3, show 65535 - (n : Int) = ((65535 - n : Nat) : Int) by omega] at this
end
theorem bytes_app (bs cs : List UInt8) : ((bs ++ cs).flatMap encB).map AV.fv = (bs.flatMap encB).map .fv ++ (cs.flatMap encB).map .fv := by simp
theorem two_T (bs : List UInt8) (k n : Nat) (hk : k = bs.length) (hn : n ≤ 65535) (hl : k ≤ 100000) : FunO Tryz.prog 85 [.osl 1000, .fv (.int .i64 (n : Int))] [(1000, .row 5 1 k ((bs.flatMap encB).map .fv))] (.osl 7) [(7, .row 5 1 (k + 2) (((bs ++ be n).flatMap encB).map .fv))] := by
  refine FunO.body tbl_ok Tryz.func85 rfl (by kernel_rfl) rfl rfl rfl ?_
  repeat' (first | (apply X.loE; (· exact aR); (· first | (exact .eff (.shrB rfl rfl)) | (exact .eff (.convB rfl rfl rfl)))) | refine X.loc ?_ | refine nx ?_ | (refine WP.condBit rfl ?_ ?_) | (refine WP.cond rfl ?_ ?_ <;> intro hcond) | (apply X.gsE; (· exact aR); (· exact aV); (· exact aW); (· intro hc; first | (exact .eff (.shrB rfl rfl)) | (exact .eff (.convB rfl rfl rfl))); (· exact aR)) | refine rb ?_ | refine nd ?_ | refine dk ?_ | fail)
  refine .ofO (s' := ⟨[(4, .osl 7)], [(7, .row 5 1 (k + 2) (((bs ++ be n).flatMap encB).map .fv))]⟩) (.inl rfl) ?_ rfl rfl rfl
  refine St.to [(7, .id 12)] [] rfl rfl ?_ ?_ <;> (repeat' (first | exact tA | refine t1 ?_ | exact tB | refine t2 ?_ ?_ | refine t3 ?_ | refine t4 ?_ ?_ | refine .ofEq ?_ | refine OB.To.cut rfl rfl ?_ ?_ ?_ ?_ | refine OB.To.box rfl rfl ?_ | refine ⟨⟨_, rfl, ?_⟩, ?_⟩ | refine ⟨?_, ?_⟩ | fail))
  all_goals (rw [bytes_app]; rfl)
theorem Eff.idxB8 {T : Tbl} {ρ : Operand → AV} {H : Own} {d t : Nat} {x y : Operand} {l : List UInt8} {k e b i : Nat} {kk : IntKind} {u : UInt8} (hk : k = l.length) (h1 : ρ x = .fv (.sl (l.flatMap encB) k)) (h2 : ρ y = .fv (.int kk i)) (h3 : lk T.sli t = some (e, 1, b)) (hu : l[i]? = some u) : Eff T ρ H d (.indexAddr t x y) (.fptr (encB u)) [] := by
  subst hk
  exact Eff.idxS (enc := encB) h1 h2 h3 encB_len hu
set_option maxHeartbeats 2000000 in
theorem sum_T (bs : List UInt8) (k : Nat) (hk : k = bs.length) (hl : k ≤ 1000) : Fun Tryz.prog 86 [.fv (.sl (bs.flatMap encB) k)] (.fv (.int .i64 (sumOf bs : Nat))) := by
  refine Fun.body tbl_ok Tryz.func86 rfl (by kernel_rfl) rfl rfl rfl ?_
  repeat' (first | refine X.loc ?_ | refine nx ?_ | (refine WP.condBit rfl ?_ ?_) | (refine WP.cond rfl ?_ ?_ <;> intro hcond) | refine rb ?_ | refine nd ?_ | refine dk ?_ | fail)
  refine WP.loop (ι := Nat) (fun j => ⟨[(6, .fv (.sl (bs.flatMap encB) k)), (7, .fv (.int .i64 k)), (8, .fv (.int .i64 j)), (3, .fv (.int .i64 (raw true (bs.take j) : Nat)))], []⟩) (fun j => j ≤ k) (fun j => k - j) 0 (by omega) ?_ ?_
  · skip
    refine St.le_of ?_ ?_ <;> (repeat' (first | exact trivial | refine ⟨⟨_, rfl, .refl _⟩, ?_⟩ | refine ⟨⟨_, rfl, .any _⟩, ?_⟩ | refine ⟨⟨_, rfl, .of_eq ?_⟩, ?_⟩ | refine ⟨⟨_, rfl, fun _ _ _ _ h => h⟩, ?_⟩ | fail))
  rintro j hj
  try dsimp only
  have hr := raw_le true (bs.take j)
  have hrl : (bs.take j).length ≤ 1000 := by simp; omega
  by_cases hlt : j < k
  case pos =>
    obtain ⟨u, hu⟩ : ∃ u, bs[j]? = some u := ⟨_, List.getElem?_eq_getElem (by omega)⟩
    have hat := raw_take hu
    have hu8 := u.toNat_lt
    repeat' (first | (apply X.loE; (· exact aR); (· first | (exact .eff (.idxB8 hk rfl rfl rfl hu)) | (exact .eff (.conv8 rfl rfl rfl)) | (exact .eff (.shlB rfl rfl (by omega))))) | refine X.loc ?_ | refine nx ?_ | refine X.cdT ?_ | refine X.cdF ?_ | (refine WP.condBit rfl ?_ ?_) | (refine WP.cond rfl ?_ ?_ <;> intro hcond) | (apply X.gsE; (· exact aR); (· exact aV); (· exact aW); (· intro hc; first | (exact .eff (.idxB8 hk rfl rfl rfl hu)) | (exact .eff (.conv8 rfl rfl rfl)) | (exact .eff (.shlB rfl rfl (by omega)))); (· exact aR)) | refine rb ?_ | refine nd ?_ | refine dk ?_ | fail)
    · refine ⟨j + 1, by omega, by omega, ?_⟩
      refine St.le_of ?_ ?_ <;> (repeat' (first | exact trivial | refine ⟨⟨_, rfl, .refl _⟩, ?_⟩ | refine ⟨⟨_, rfl, .any _⟩, ?_⟩ | refine ⟨⟨_, rfl, .of_eq ?_⟩, ?_⟩ | refine ⟨⟨_, rfl, fun _ _ _ _ h => h⟩, ?_⟩ | fail))
      all_goals
        have h2 : j % 2 = 0 := by simp at hcond; omega
        rw [if_pos h2] at hat
        rw [hat]
        congr 2
        omega
    · refine ⟨j + 1, by omega, by omega, ?_⟩
      refine St.le_of ?_ ?_ <;> (repeat' (first | exact trivial | refine ⟨⟨_, rfl, .refl _⟩, ?_⟩ | refine ⟨⟨_, rfl, .any _⟩, ?_⟩ | refine ⟨⟨_, rfl, .of_eq ?_⟩, ?_⟩ | refine ⟨⟨_, rfl, fun _ _ _ _ h => h⟩, ?_⟩ | fail))
      all_goals
        have h2 : ¬ j % 2 = 0 := by simp at hcond; omega
        rw [if_neg h2] at hat
        rw [hat]
        congr 2
  case neg =>
    have hjk : j = k := by omega
    subst hjk
    rw [List.take_of_length_le (by omega)] at hr ⊢
    repeat' (first | refine X.loc ?_ | refine nx ?_ | refine X.cdT ?_ | refine X.cdF ?_ | (refine WP.condBit rfl ?_ ?_) | (refine WP.cond rfl ?_ ?_ <;> intro hcond) | refine rb ?_ | refine nd ?_ | refine dk ?_ | fail)
    refine WP.loop (ι := Nat) (fun q => ⟨[(3, .fv (.int .i64 q))], []⟩) (fun q => q ≤ 65280000 ∧ csum q = csum (raw true bs)) (fun q => q) (raw true bs) ⟨by omega, rfl⟩ ?_ ?_
    · skip
      refine St.le_of ?_ ?_ <;> (repeat' (first | exact trivial | refine ⟨⟨_, rfl, .refl _⟩, ?_⟩ | refine ⟨⟨_, rfl, .any _⟩, ?_⟩ | refine ⟨⟨_, rfl, .of_eq ?_⟩, ?_⟩ | refine ⟨⟨_, rfl, fun _ _ _ _ h => h⟩, ?_⟩ | fail))
    rintro q ⟨hq, hc⟩
    try dsimp only
    by_cases hg : 65535 < q
    case pos =>
      repeat' (first | (apply X.loE; (· exact aR); (· first | (exact .eff (.shrW rfl rfl)) | (exact .eff (.andW rfl rfl (by omega))))) | refine X.loc ?_ | refine nx ?_ | refine X.cdT ?_ | refine X.cdF ?_ | (refine WP.condBit rfl ?_ ?_) | (refine WP.cond rfl ?_ ?_ <;> intro hcond) | (apply X.gsE; (· exact aR); (· exact aV); (· exact aW); (· intro hc; first | (exact .eff (.shrW rfl rfl)) | (exact .eff (.andW rfl rfl (by omega)))); (· exact aR)) | refine rb ?_ | refine nd ?_ | refine dk ?_ | fail)
      refine ⟨q / 65536 + q % 65536, ⟨by omega, by rw [csum_fold q hg]; exact hc⟩, by omega, ?_⟩
      refine St.le_of ?_ ?_ <;> (repeat' (first | exact trivial | refine ⟨⟨_, rfl, .refl _⟩, ?_⟩ | refine ⟨⟨_, rfl, .any _⟩, ?_⟩ | refine ⟨⟨_, rfl, .of_eq ?_⟩, ?_⟩ | refine ⟨⟨_, rfl, fun _ _ _ _ h => h⟩, ?_⟩ | fail))
      all_goals (congr 2)
    case neg =>
      repeat' (first | (apply X.loE; (· exact aR); (· first | (exact .eff (.xorW rfl rfl (by omega))))) | refine X.loc ?_ | refine nx ?_ | refine X.cdT ?_ | refine X.cdF ?_ | (refine WP.condBit rfl ?_ ?_) | (refine WP.cond rfl ?_ ?_ <;> intro hcond) | (apply X.gsE; (· exact aR); (· exact aV); (· exact aW); (· intro hc; first | (exact .eff (.xorW rfl rfl (by omega)))); (· exact aR)) | refine rb ?_ | refine nd ?_ | refine dk ?_ | fail)
      refine .f1 (.inl rfl) rfl ?_
      rw [sumOf, ← hc, csum_small (by omega)]
end Go.Proofs.YtmidechdlbcepaaGreat

namespace Go.Proofs.YtmidechdlbcepaaGreat
open Go.RowKit
set_option maxRecDepth 100000

def headF (f : Fr) : List UInt8 := be f.dst.toNat ++ be f.src.toNat ++ [UInt8.ofNat f.kind.toNat, UInt8.ofNat f.ttl.toNat] ++ be f.ipSrc.toNat ++ be f.ipDst.toNat ++ be f.port.toNat ++ [0, UInt8.ofNat f.body.size] ++ f.body.data.toList
def bytesF (f : Fr) : List UInt8 := headF f ++ be (sumOf (headF f))
def encF (f : Fr) : List UInt8 := if frameFault f ≠ 0 then [] else bytesF f
theorem headF_len (f : Fr) : (headF f).length = 14 + f.body.size := by
  simp only [headF, be, List.length_append, List.length_cons, List.length_nil, Array.length_toList]
  show _ = 14 + f.body.data.size
  omega
theorem bytesF_len (f : Fr) : (bytesF f).length = 16 + f.body.size := by
  rw [bytesF, List.length_append, headF_len]
  simp only [be, List.length_cons, List.length_nil]
  omega
theorem fr_nat {f : Fr} (h : FrMay f) : ∃ n0 n1 n2 n3 n4 n5 n6 : Nat, f = ⟨n0, n1, n2, n3, n4, n5, n6, f.body⟩ ∧ n0 ≤ 65535 ∧ n1 ≤ 65535 ∧ n2 ≤ 255 ∧ n3 ≤ 65535 ∧ n4 ≤ 65535 ∧ n5 ≤ 255 ∧ n6 ≤ 65535 := by
  obtain ⟨d, s, k, is, id, t, p, b⟩ := f
  obtain ⟨h0, h1, h2, h3, h4, h5, h6, h7⟩ := h
  refine ⟨d.toNat, s.toNat, k.toNat, is.toNat, id.toNat, t.toNat, p.toNat, ?_, ?_, ?_, ?_, ?_, ?_, ?_, ?_⟩
  · dsimp only at *
    rw [Int.toNat_of_nonneg h0.1, Int.toNat_of_nonneg h1.1, Int.toNat_of_nonneg (show 0 ≤ k by omega), Int.toNat_of_nonneg h3.1, Int.toNat_of_nonneg h4.1, Int.toNat_of_nonneg h5.1, Int.toNat_of_nonneg h6.1]
  all_goals (dsimp only at *; omega)
set_option maxHeartbeats 4000000 in
theorem encode_T (f : Fr) : FunO Tryz.prog 55 [.agg ((encFr f).map .fv)] [] (.tup [.osl 7, .fv (.int .i64 (frameFault f))]) [(7, .row 5 1 (encF f).length (((encF f).flatMap encB).map .fv))] := by
  have hck := wireCheck_T f
  by_cases hff : frameFault f = 0
  case neg =>
    have he : encF f = [] := if_pos hff
    rw [he]
    refine FunO.body tbl_ok Tryz.func55 rfl (by kernel_rfl) rfl rfl rfl ?_
    repeat' (first | (apply X.loE; (· exact aR); (· first | exact .callL rfl rfl rfl (hck) rfl | exact bl (hck))) | refine X.loc ?_ | refine nx ?_ | (refine WP.condBit rfl ?_ ?_) | (refine WP.cond rfl ?_ ?_ <;> intro hcond) | (apply X.gsE; (· exact aR); (· exact aV); (· exact aW); (· intro hc; first | exact .callG rfl rfl rfl (hck) rfl | exact bg (hck)); (· exact aR)) | refine rb ?_ | refine nd ?_ | refine dk ?_ | fail)
    · refine .ofO (s' := ⟨[(2, .osl 7), (3, .fv (.int .i64 (frameFault f)))], [(7, .row 5 1 0 [])]⟩) (.inl rfl) ?_ rfl rfl rfl
      refine St.to [(7, .nil)] [] rfl rfl ?_ ?_ <;> (repeat' (first | exact tA | refine t1 ?_ | exact tB | refine t2 ?_ ?_ | refine t3 ?_ | refine t4 ?_ ?_ | refine .ofEq ?_ | refine OB.To.cut rfl rfl ?_ ?_ ?_ ?_ | refine OB.To.box rfl rfl ?_ | refine ⟨⟨_, rfl, ?_⟩, ?_⟩ | refine ⟨?_, ?_⟩ | fail))
    all_goals
      exfalso
      exact hff (by simpa using hcond)
  case pos =>
    have he : encF f = bytesF f := if_neg (by omega)
    have hlen := bytesF_len f
    rw [he]
    have hm := frMay hff
    have hb := hm.body
    rw [hff] at hck ⊢
    obtain ⟨n0, n1, n2, n3, n4, n5, n6, hfe, b0, b1, b2, b3, b4, b5, b6⟩ := fr_nat hm
    generalize f.body = s at hfe hb hlen
    subst hfe
    have hhl := headF_len ⟨n0, n1, n2, n3, n4, n5, n6, s⟩
    have hb2 : (Fr.body ⟨n0, n1, n2, n3, n4, n5, n6, s⟩).size ≤ 40 := hb
    have hs := sumOf_le (headF ⟨n0, n1, n2, n3, n4, n5, n6, s⟩)
    have hsum := sum_T (headF ⟨n0, n1, n2, n3, n4, n5, n6, s⟩) (14 + s.size) hhl.symm (by omega)
    have hbf : bytesF ⟨n0, n1, n2, n3, n4, n5, n6, s⟩ = headF ⟨n0, n1, n2, n3, n4, n5, n6, s⟩ ++ be (sumOf (headF ⟨n0, n1, n2, n3, n4, n5, n6, s⟩)) := rfl
    generalize hq : sumOf (headF ⟨n0, n1, n2, n3, n4, n5, n6, s⟩) = q at hs hsum hbf
    rw [hbf] at hlen ⊢
    refine FunO.body tbl_ok Tryz.func55 rfl (by kernel_rfl) rfl rfl rfl ?_
    repeat' (first | (apply X.loE; (· exact aR); (· first | (exact .eff (.convB rfl rfl rfl)) | exact .callL rfl rfl rfl (by first | exact hck | exact hsum) rfl | exact bl (hck) | exact bl (hsum))) | refine X.loc ?_ | refine nx ?_ | refine X.cdT ?_ | refine X.cdF ?_ | (refine WP.condBit rfl ?_ ?_) | (refine WP.cond rfl ?_ ?_ <;> intro hcond) | (apply X.gsE; (· exact aR); (· exact aV); (· exact aW); (· intro hc; first | (exact .eff (.convB rfl rfl rfl)) | exact .callG rfl rfl rfl (by first | exact hck | exact hsum) rfl | exact bg (hck) | exact bg (hsum)); (· exact aR)) | refine rb ?_ | refine X.c0 (two_T [] 0 n0 rfl b0 (by omega)) ?_ | refine X.c0 (two_T (be n0) 2 n1 rfl b1 (by omega)) ?_ | refine X.c0 (two_T (be n0 ++ be n1 ++ [UInt8.ofNat n2, UInt8.ofNat n5]) 6 n3 rfl b3 (by omega)) ?_ | refine X.c0 (two_T (be n0 ++ be n1 ++ [UInt8.ofNat n2, UInt8.ofNat n5] ++ be n3) 8 n4 rfl b4 (by omega)) ?_ | refine X.c0 (two_T (be n0 ++ be n1 ++ [UInt8.ofNat n2, UInt8.ofNat n5] ++ be n3 ++ be n4) 10 n6 rfl b6 (by omega)) ?_ | refine X.c0 (two_T (headF ⟨n0, n1, n2, n3, n4, n5, n6, s⟩) (14 + s.size) q hhl.symm hs (by omega)) ?_ | refine nd ?_ | refine dk ?_ | fail)
    refine .ofO (s' := ⟨[(2, .osl 7), (3, .fv (.int .i64 0))], [(7, .row 5 1 (headF ⟨n0, n1, n2, n3, n4, n5, n6, s⟩ ++ be q).length (((headF ⟨n0, n1, n2, n3, n4, n5, n6, s⟩ ++ be q).flatMap encB).map .fv))]⟩) (.inl rfl) ?_ rfl rfl rfl
    refine St.to [(7, .id 49)] [] rfl rfl ?_ ?_ <;> (repeat' (first | exact tA | refine t1 ?_ | exact tB | refine t2 ?_ ?_ | refine t3 ?_ | refine t4 ?_ ?_ | refine .ofEq ?_ | refine OB.To.cut rfl rfl ?_ ?_ ?_ ?_ | refine OB.To.box rfl rfl ?_ | refine ⟨⟨_, rfl, ?_⟩, ?_⟩ | refine ⟨?_, ?_⟩ | fail))
    all_goals (rw [hlen]; omega)
theorem encodeF_T (f : Fr) : Fun Tryz.prog 55 [.agg ((encFr f).map .fv)] (.tup [.fv (.sl ((encF f).flatMap encB) (encF f).length), .fv (.int .i64 (frameFault f))]) :=
  FunO.froz [7] (encode_T f) (.tup (.cons (.frz rfl rfl rfl) (.cons (.le (.refl _) rfl) .nil)))
end Go.Proofs.YtmidechdlbcepaaGreat

namespace Go.Proofs.YtmidechdlbcepaaGreat
open Go.RowKit
set_option maxRecDepth 100000

theorem bits_or_byte (n m : Nat) (h : n ≤ 65535) (hm : m < 256) : bits .or .i64 ((n * 256 : Nat) : Int) (m : Int) = ((256 * n + m : Nat) : Int) := by
  have e : n * 256 ||| m = 256 * n + m := by
    have := Nat.shiftLeft_add_eq_or_of_lt (a := n) (b := m) (i := 8) (by omega)
    rw [Nat.shiftLeft_eq, show 2 ^ 8 = 256 from rfl] at this
    omega
  show IntKind.i64.wrap ((BitVec.ofInt 64 ((n * 256 : Nat) : Int) ||| BitVec.ofInt 64 (m : Int)).toNat : Int) = _
  rw [BitVec.toNat_or, ofInt_i64 _ (by omega), ofInt_i64 _ (by omega), e, IntKind.wrap_i64]
  omega
def byteAt (bs : List UInt8) (i : Nat) : UInt8 := (bs[i]?).getD 0
def wat (bs : List UInt8) (i : Nat) : Nat := 256 * (byteAt bs i).toNat + (byteAt bs (i + 1)).toNat
theorem byteAt_get {bs : List UInt8} {i k : Nat} (hk : k = bs.length) (h : i < k) : bs[i]? = some (byteAt bs i) := by
  subst hk
  rw [byteAt, List.getElem?_eq_getElem h]
  rfl
theorem wat_le (bs : List UInt8) (i : Nat) : wat bs i ≤ 65535 := by
  have := (byteAt bs i).toNat_lt
  have := (byteAt bs (i + 1)).toNat_lt
  unfold wat
  omega
theorem flatMap_drop {α : Type} {enc : α → List FV} {s : Nat} (hs : ∀ x, (enc x).length = s) : ∀ (l : List α) (j : Nat), (l.flatMap enc).drop (j * s) = (l.drop j).flatMap enc
  | l, 0 => by simp
  | [], j + 1 => by simp
  | x :: l, j + 1 => by
    rw [List.flatMap_cons, List.drop_succ_cons, ← flatMap_drop hs l j, Nat.add_mul, Nat.one_mul, Nat.add_comm, ← List.drop_drop, List.drop_left' (hs x)]
theorem flatMap_take {α : Type} {enc : α → List FV} {s : Nat} (hs : ∀ x, (enc x).length = s) : ∀ (l : List α) (j : Nat), (l.flatMap enc).take (j * s) = (l.take j).flatMap enc
  | l, 0 => by simp
  | [], j + 1 => by simp
  | x :: l, j + 1 => by
    rw [List.flatMap_cons, List.take_succ_cons, List.flatMap_cons, ← flatMap_take hs l j, Nat.add_mul, Nat.one_mul, Nat.add_comm, List.take_append, List.take_of_length_le (by rw [hs]; omega), hs, Nat.add_sub_cancel_left]
section
variable {T : Tbl} {ρ : Operand → AV} {H : Own} {d : Nat}
theorem Eff.orB {t u : Nat} {x y : Operand} {n m : Nat} (h1 : ρ x = .fv (.int .i64 ((n * 256 : Nat) : Int))) (h2 : ρ y = .fv (.int .i64 (m : Int))) (h3 : n ≤ 65535) (h4 : m < 256) : Eff T ρ H d (.binOp .or t x y u) (.fv (.int .i64 ((256 * n + m : Nat) : Int))) [] := by
  have := Eff.bin (T := T) (H := H) (d := d) (op := .or) (t := t) (u := u) h1 h2 rfl
  rwa [bits_or_byte n m h3 h4] at this
theorem Eff.idxBI {t : Nat} {x y : Operand} {l : List UInt8} {k e b : Nat} (i : Nat) {kk : IntKind} {v : Int} (hk : k = l.length) (h1 : ρ x = .fv (.sl (l.flatMap encB) k)) (h2 : ρ y = .fv (.int kk v)) (h3 : lk T.sli t = some (e, 1, b)) (hv : v = (i : Int)) (hi : i < k) : Eff T ρ H d (.indexAddr t x y) (.fptr (encB (byteAt l i))) [] := by
  subst hv
  exact Eff.idxB8 hk h1 h2 h3 (byteAt_get hk hi)
theorem Eff.sliHB {t : Nat} {x hi : Operand} {l : List UInt8} {k e b : Nat} (h : Nat) {k' : IntKind} {v : Int} (hk : k = l.length) (h1 : ρ x = .fv (.sl (l.flatMap encB) k)) (h2 : ρ hi = .fv (.int k' v)) (h3 : lk T.sli t = some (e, 1, b)) (hv : v = (h : Int)) (hh : h ≤ k) : Eff T ρ H d (.slice t x none (some hi) none) (.fv (.sl ((l.take h).flatMap encB) h)) [] := by
  subst hv
  have hl : (l.flatMap encB).length = k * 1 := by rw [flatMap_len encB_len, hk]
  have := Eff.sliH (T := T) (H := H) (d := d) h1 h2 h3 hh hl
  rwa [flatMap_take encB_len] at this
theorem Eff.sliLB {t : Nat} {x lo : Operand} {bs : List UInt8} {k e b : Nat} (l : Nat) {k' : IntKind} {v : Int} (hk : k = bs.length) (h1 : ρ x = .fv (.sl (bs.flatMap encB) k)) (h2 : ρ lo = .fv (.int k' v)) (h3 : lk T.sli t = some (e, 1, b)) (hv : v = (l : Int)) (hh : l ≤ k) : Eff T ρ H d (.slice t x (some lo) none none) (.fv (.sl ((bs.drop l).flatMap encB) (k - l))) [] := by
  subst hv
  have hl : (bs.flatMap encB).length = k * 1 := by rw [flatMap_len encB_len, hk]
  have := Eff.sliL (T := T) (H := H) (d := d) h1 h2 h3 hh hl
  rwa [flatMap_drop encB_len] at this
theorem Eff.sliLHB {t : Nat} {x lo hi : Operand} {bs : List UInt8} {k e b : Nat} (l m : Nat) {k' k2 : IntKind} {v v2 : Int} (hk : k = bs.length) (h1 : ρ x = .fv (.sl (bs.flatMap encB) k)) (h2 : ρ lo = .fv (.int k' v)) (h2' : ρ hi = .fv (.int k2 v2)) (h3 : lk T.sli t = some (e, 1, b)) (hv : v = (l : Int)) (hv2 : v2 = ((l + m : Nat) : Int)) (hh2 : l + m ≤ k) :
    Eff T ρ H d (.slice t x (some lo) (some hi) none) (.fv (.sl (((bs.drop l).take m).flatMap encB) m)) [] := by
  subst hv
  subst hv2
  have hl : (bs.flatMap encB).length = k * 1 := by rw [flatMap_len encB_len, hk]
  have := Eff.sliLH (T := T) (H := H) (d := d) h1 h2 h2' h3 (Nat.le_add_right l m) hh2 hl
  rwa [Nat.add_sub_cancel_left, flatMap_drop encB_len, flatMap_take encB_len] at this
theorem Eff.b2sB {s t : Nat} {x : Operand} {bs : List UInt8} {k e q b : Nat} (h1 : ρ x = .fv (.sl (bs.flatMap encB) k)) (h2 : lk T.sli s = some (e, q, b)) (h3 : lk T.kind e = some .u8) (h4 : lk T.str t = some ()) (hk : k = bs.length) : Eff T ρ H d (.convert s t x) (.fv (.str ⟨bs.toArray⟩)) [] := by
  subst hk
  exact .b2s h1 h2 h3 h4
end
theorem at_T (bs : List UInt8) (k i : Nat) (v : Int) (hk : k = bs.length) (hv : v = (i : Int)) (hi : i + 1 < k) (hl : k ≤ 140737488355328) : Fun Tryz.prog 175 [.fv (.int .i64 v), .fptr [.sl (bs.flatMap encB) k]] (.fv (.int .i64 (wat bs i : Nat))) := by
  have u1 := (byteAt bs i).toNat_lt
  have u2 := (byteAt bs (i + 1)).toNat_lt
  refine Fun.body tbl_ok Tryz.func175 rfl (by kernel_rfl) rfl rfl rfl ?_
  repeat' (first | (apply X.loE; (· exact aR); (· first | (exact .eff (.idxBI i hk rfl rfl rfl hv (by omega))) | (exact .eff (.idxBI (i + 1) hk rfl rfl rfl (by omega) (by omega))) | (exact .eff (.conv8 rfl rfl rfl)) | (exact .eff (.shlB rfl rfl (by omega))) | (exact .eff (.orB rfl rfl (by omega) (by omega))))) | refine X.loc ?_ | refine nx ?_ | refine X.cdT ?_ | refine X.cdF ?_ | (refine WP.condBit rfl ?_ ?_) | (refine WP.cond rfl ?_ ?_ <;> intro hcond) | (apply X.gsE; (· exact aR); (· exact aV); (· exact aW); (· intro hc; first | (exact .eff (.idxBI i hk rfl rfl rfl hv (by omega))) | (exact .eff (.idxBI (i + 1) hk rfl rfl rfl (by omega) (by omega))) | (exact .eff (.conv8 rfl rfl rfl)) | (exact .eff (.shlB rfl rfl (by omega))) | (exact .eff (.orB rfl rfl (by omega) (by omega)))); (· exact aR)) | refine rb ?_ | refine nd ?_ | refine dk ?_ | fail)
  refine .f1 (.inl rfl) rfl ?_
  rfl
end Go.Proofs.YtmidechdlbcepaaGreat
