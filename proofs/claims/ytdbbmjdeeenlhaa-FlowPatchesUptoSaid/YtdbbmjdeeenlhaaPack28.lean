/- What is wanted: what the document says of a thing that comes. -/
import Derived.Test.YtdbbmjdeeenlhaaPack27
import Derived.Test.YtdbbmjdeeenlhaaPack22
import Derived.Test.YtdbbmjdeeenlhaaPack21
set_option linter.unusedSimpArgs false
set_option linter.unusedVariables false
namespace Go.Proofs.Ytdbbmjdeeenlhaa
open Go.RowKit
set_option maxRecDepth 100000

theorem switchFault_T (c : Cf) (s : Sw) (hl : c.Small) : Fun Try.prog 67 [.agg ((encCf c).map .fv), .agg ((encSw s).map .fv)] (.fv (.int .i64 (swFault c s))) := by
  have hsec : (c.ss.any (fun x => x.id == s.id) || (decide (s.gate > 0) && takenB c s.tenant s.gate)) = true ↔ (c.ss.any (fun x => x.id == s.id) = true ∨ (0 < s.gate ∧ takenB c s.tenant s.gate = true)) := by
    rw [Bool.or_eq_true, Bool.and_eq_true, decide_eq_true_iff]
  refine Fun.body tbl_ok Try.func67 rfl (by kernel_rfl) rfl rfl rfl ?_
  repeat' (first
    | (apply X.loE; (· exact aR); (· first | exact .callL rfl rfl rfl (by first | exact in_T _ _ _ | exact switchOf_T c _ hl | exact isTaken_T c _ _ hl) rfl | (apply LEff.callBL; (· rfl); (· rfl); (· exact in_T _ _ _); (· exact aB); (· rfl)) | (apply LEff.callBL; (· rfl); (· rfl); (· exact switchOf_T c _ hl); (· exact aB); (· rfl)) | (apply LEff.callBL; (· rfl); (· rfl); (· exact isTaken_T c _ _ hl); (· exact aB); (· rfl))))
    | refine X.loc ?_
    | refine nx ?_
    | (refine WP.condBit rfl ?_ ?_)
    | (refine WP.cond rfl ?_ ?_ <;> intro hcond)
    | (apply X.gsE; (· exact aR); (· exact aV); (· exact aW); (· intro hc; first | exact .callG rfl rfl rfl (by first | exact in_T _ _ _ | exact switchOf_T c _ hl | exact isTaken_T c _ _ hl) rfl | (apply LEff.callBG; (· rfl); (· rfl); (· exact in_T _ _ _); (· exact aB); (· rfl)) | (apply LEff.callBG; (· rfl); (· rfl); (· exact switchOf_T c _ hl); (· exact aB); (· rfl)) | (apply LEff.callBG; (· rfl); (· rfl); (· exact isTaken_T c _ _ hl); (· exact aB); (· rfl))); (· exact aR))
    | refine X.gst ?_ | refine X.gld ?_ | refine X.new ?_ | refine X.app ?_ | refine X.appS ?_ | refine X.stoW ?_ | refine X.stoB ?_ | refine X.stoR ?_ | refine X.gand ?_ | refine X.gor ?_
    | refine nd ?_
    | ((with_reducible apply drwK.mk); (· kernel_rfl); (· exact aF))
    | fail)
  · refine .f1 (.inl rfl) rfl ?_
    rw [swFault, if_pos (by simpa [or_assoc] using hcond)]
  all_goals (have h1 : ¬ (inR s.id 1 500 = false ∨ inR s.tenant 1 9 = false ∨ inR s.gate 0 65535 = false) := by simpa [and_assoc] using ‹(!inR s.id 1 500 || !inR s.tenant 1 9 || !inR s.gate 0 65535) = false›)
  · refine .f1 (.inl rfl) rfl ?_
    rw [swFault, if_neg h1, if_pos (hsec.1 hcond)]
  · refine .f1 (.inl rfl) rfl ?_
    rename_i h2
    rw [swFault, if_neg h1, if_neg (fun h => by rw [hsec.2 h] at h2; cases h2), if_pos (by simp at hcond; omega)]
  · refine .f1 (.inl rfl) rfl ?_
    rename_i h2
    rw [swFault, if_neg h1, if_neg (fun h => by rw [hsec.2 h] at h2; cases h2), if_neg (by simp at hcond; omega)]
set_option maxHeartbeats 2000000 in
theorem portFault_T (c : Cf) (p : Po) (hl : c.Small) : Fun Try.prog 68 [.agg ((encCf c).map .fv), .agg ((encPo p).map .fv)] (.fv (.int .i64 (poFault c p))) := by
  have hl2 := hl.2.1
  refine Fun.body tbl_ok Try.func68 rfl (by kernel_rfl) rfl rfl rfl ?_
  repeat' (first
    | (apply X.loE; (· exact aR); (· first | exact .callL rfl rfl rfl (by first | exact in_T _ _ _ | exact switchOf_T c _ hl) rfl | (apply LEff.callBL; (· rfl); (· rfl); (· exact in_T _ _ _); (· exact aB); (· rfl)) | (apply LEff.callBL; (· rfl); (· rfl); (· exact switchOf_T c _ hl); (· exact aB); (· rfl))))
    | refine X.loc ?_
    | refine nx ?_
    | (refine WP.condBit rfl ?_ ?_)
    | (refine WP.cond rfl ?_ ?_ <;> intro hcond)
    | (apply X.gsE; (· exact aR); (· exact aV); (· exact aW); (· intro hc; first | exact .callG rfl rfl rfl (by first | exact in_T _ _ _ | exact switchOf_T c _ hl) rfl | (apply LEff.callBG; (· rfl); (· rfl); (· exact in_T _ _ _); (· exact aB); (· rfl)) | (apply LEff.callBG; (· rfl); (· rfl); (· exact switchOf_T c _ hl); (· exact aB); (· rfl))); (· exact aR))
    | refine X.gst ?_ | refine X.gld ?_ | refine X.new ?_ | refine X.app ?_ | refine X.appS ?_ | refine X.stoW ?_ | refine X.stoB ?_ | refine X.stoR ?_ | refine X.gand ?_ | refine X.gor ?_
    | refine nd ?_
    | ((with_reducible apply drwK.mk); (· kernel_rfl); (· exact aF))
    | fail)
  · refine .f1 (.inl rfl) rfl ?_
    rw [poFault, if_pos (by simpa [or_assoc] using hcond)]
  all_goals (have h1 : ¬ (inR p.id 1 999 = false ∨ inR p.mac 1 59999 = false ∨ inR p.ip 1 65535 = false ∨ inR p.ch (-1) 5 = false) := by simpa [and_assoc] using ‹(!inR p.id 1 999 || !inR p.mac 1 59999 || !inR p.ip 1 65535 || !inR p.ch (-1) 5) = false›)
  · refine .f1 (.inl rfl) rfl ?_
    rw [poFault, if_neg h1, if_pos (by simpa only [Bool.not_eq_true'] using hcond)]
  have h2 : ¬ (c.ss.any (fun x => x.id == p.sw) = false) := by simpa only [Bool.not_eq_false', Bool.not_eq_false] using hcond
  clear hcond
  refine WP.loop (ι := Nat) (fun k => ⟨[(2, .optr 2 0), (3, .optr 3 0), (5, .optr 5 0), (7, .fv (.int .i64 k))], [(2, .box 50 ((encCf c).map .fv)), (3, .box 54 ((encPo p).map .fv)), (5, .box 52 ((encSw (swOf c.ss p.sw)).map .fv))]⟩)
    (fun k => k ≤ c.ps.length ∧ c.ps.any (fun q => q.id == p.id || (q.sw == p.sw && q.mac == p.mac)) = (c.ps.drop k).any (fun q => q.id == p.id || (q.sw == p.sw && q.mac == p.mac))) (fun k => c.ps.length - k) 0 ⟨by omega, rfl⟩ ?_ ?_
  · skip
    refine St.le_of ?_ ?_ <;> (repeat' (first | exact trivial | refine ⟨⟨_, rfl, .refl _⟩, ?_⟩ | refine ⟨⟨_, rfl, .any _⟩, ?_⟩ | refine ⟨⟨_, rfl, .of_eq ?_⟩, ?_⟩ | refine ⟨⟨_, rfl, fun _ _ _ _ h => h⟩, ?_⟩ | fail))
  rintro k ⟨hk, hd⟩
  try dsimp only
  by_cases hlt : k < c.ps.length
  case pos =>
    obtain ⟨x, hx⟩ : ∃ x, c.ps[k]? = some x := ⟨_, List.getElem?_eq_getElem hlt⟩
    have hat := any_at (p := fun q : Po => q.id == p.id || (q.sw == p.sw && q.mac == p.mac)) hx
    repeat' (first
      | (apply X.loE; (· exact aR); (· first | (exact .eff (.idxS rfl rfl rfl encPo_len hx))))
      | refine X.loc ?_
      | refine nx ?_
      | (refine WP.condBit rfl ?_ ?_)
      | (refine WP.cond rfl ?_ ?_ <;> intro hcond)
      | (apply X.gsE; (· exact aR); (· exact aV); (· exact aW); (· intro hc; first | (exact .eff (.idxS rfl rfl rfl encPo_len hx))); (· exact aR))
      | refine X.gst ?_ | refine X.gld ?_ | refine X.new ?_ | refine X.app ?_ | refine X.appS ?_ | refine X.stoW ?_ | refine X.stoB ?_ | refine X.stoR ?_ | refine X.gand ?_ | refine X.gor ?_
      | refine nd ?_
      | ((with_reducible apply drwK.mk); (· kernel_rfl); (· exact aF))
      | fail)
    · refine .f1 (.inl rfl) rfl ?_
      rw [poFault, if_neg h1, if_neg h2, if_pos (by rw [hd, hat, hcond]; rfl)]
    · refine ⟨k + 1, ⟨by omega, ?_⟩, by omega, ?_⟩
      · rw [hd, hat, hcond]
        rfl
      · skip
        refine St.le_of ?_ ?_ <;> (repeat' (first | exact trivial | refine ⟨⟨_, rfl, .refl _⟩, ?_⟩ | refine ⟨⟨_, rfl, .any _⟩, ?_⟩ | refine ⟨⟨_, rfl, .of_eq ?_⟩, ?_⟩ | refine ⟨⟨_, rfl, fun _ _ _ _ h => h⟩, ?_⟩ | fail))
    · exfalso
      simp at hcond
      omega
  case neg =>
    have h3 : ¬ (c.ps.any (fun q => q.id == p.id || (q.sw == p.sw && q.mac == p.mac)) = true) := by rw [hd, List.drop_of_length_le (by omega)]; simp
    repeat' (first
      | (apply X.loE; (· exact aR); (· first | exact .callL rfl rfl rfl (isTaken_T c _ _ hl) rfl | (apply LEff.callBL; (· rfl); (· rfl); (· exact isTaken_T c _ _ hl); (· exact aB); (· rfl))))
      | refine X.loc ?_
      | refine nx ?_
      | (refine WP.condBit rfl ?_ ?_)
      | (refine WP.cond rfl ?_ ?_ <;> intro hcond)
      | (apply X.gsE; (· exact aR); (· exact aV); (· exact aW); (· intro hc; first | exact .callG rfl rfl rfl (isTaken_T c _ _ hl) rfl | (apply LEff.callBG; (· rfl); (· rfl); (· exact isTaken_T c _ _ hl); (· exact aB); (· rfl))); (· exact aR))
      | refine X.gst ?_ | refine X.gld ?_ | refine X.new ?_ | refine X.app ?_ | refine X.appS ?_ | refine X.stoW ?_ | refine X.stoB ?_ | refine X.stoR ?_ | refine X.gand ?_ | refine X.gor ?_
      | refine nd ?_
      | ((with_reducible apply drwK.mk); (· kernel_rfl); (· exact aF))
      | fail)
    · exfalso
      simp at hcond
      omega
    · refine .f1 (.inl rfl) rfl ?_
      rw [poFault, if_neg h1, if_neg h2, if_neg h3, ← swOf_tenant, if_pos hcond]
    · refine .f1 (.inl rfl) rfl ?_
      rename_i h4
      rw [poFault, if_neg h1, if_neg h2, if_neg h3, ← swOf_tenant, if_neg (fun h => by rw [h] at h4; cases h4), if_pos (by simp at hcond; omega)]
    · refine .f1 (.inl rfl) rfl ?_
      rename_i h4
      rw [poFault, if_neg h1, if_neg h2, if_neg h3, ← swOf_tenant, if_neg (fun h => by rw [h] at h4; cases h4), if_neg (by simp at hcond; omega)]
theorem unit_T (b : Nat) (hb : b ≤ 16) : Fun Try.prog 117 [.fv (.int .i64 b)] (.fv (.int .i64 (unitOf b))) := by
  refine Fun.body tbl_ok Try.func117 rfl (by kernel_rfl) rfl rfl rfl ?_
  repeat' (first
    | refine X.loc ?_
    | refine nx ?_
    | (refine WP.condBit rfl ?_ ?_)
    | (refine WP.cond rfl ?_ ?_ <;> intro hcond)
    | refine X.gst ?_ | refine X.gld ?_ | refine X.new ?_ | refine X.app ?_ | refine X.appS ?_ | refine X.stoW ?_ | refine X.stoB ?_ | refine X.stoR ?_ | refine X.gand ?_ | refine X.gor ?_
    | refine nd ?_
    | ((with_reducible apply drwK.mk); (· kernel_rfl); (· exact aF))
    | fail)
  refine WP.loop (ι := Nat) (fun k => ⟨[(0, .fv (.int .i64 ((b : Int) - k))), (3, .fv (.int .i64 ((2 ^ (16 - k) : Nat) : Int)))], []⟩) (fun k => k ≤ b) (fun k => b - k) 0 (by omega) ?_ ?_
  · skip
    refine St.le_of ?_ ?_ <;> (repeat' (first | exact trivial | refine ⟨⟨_, rfl, .refl _⟩, ?_⟩ | refine ⟨⟨_, rfl, .any _⟩, ?_⟩ | refine ⟨⟨_, rfl, .of_eq ?_⟩, ?_⟩ | refine ⟨⟨_, rfl, fun _ _ _ _ h => h⟩, ?_⟩ | fail))
  rintro k hk
  try dsimp only
  have hp : (2 : Nat) ^ (16 - k) ≤ 65536 := by
    have := Nat.pow_le_pow_right (n := 2) (by omega) (show 16 - k ≤ 16 by omega)
    simpa using this
  have hpz := Nat.two_pow_pos (16 - k)
  generalize hq : (2 : Nat) ^ (16 - k) = q at hp hpz
  by_cases hlt : k < b
  case pos =>
    repeat' (first
      | refine X.loc ?_
      | refine nx ?_
      | (refine WP.condBit rfl ?_ ?_)
      | (refine WP.cond rfl ?_ ?_ <;> intro hcond)
      | refine X.gst ?_ | refine X.gld ?_ | refine X.new ?_ | refine X.app ?_ | refine X.appS ?_ | refine X.stoW ?_ | refine X.stoB ?_ | refine X.stoR ?_ | refine X.gand ?_ | refine X.gor ?_
      | refine nd ?_
      | ((with_reducible apply drwK.mk); (· kernel_rfl); (· exact aF))
      | fail)
    · refine ⟨k + 1, by omega, by omega, ?_⟩
      refine St.le_of ?_ ?_ <;> (repeat' (first | exact trivial | refine ⟨⟨_, rfl, .refl _⟩, ?_⟩ | refine ⟨⟨_, rfl, .any _⟩, ?_⟩ | refine ⟨⟨_, rfl, .of_eq ?_⟩, ?_⟩ | refine ⟨⟨_, rfl, fun _ _ _ _ h => h⟩, ?_⟩ | fail))
      · congr 2
        omega
      · rw [show 16 - k = (16 - (k + 1)) + 1 from by omega, Nat.pow_succ] at hq
        generalize (2 : Nat) ^ (16 - (k + 1)) = r at hq ⊢
        congr 2
        omega
    · exfalso
      simp at hcond
      omega
  case neg =>
    repeat' (first
      | refine X.loc ?_
      | refine nx ?_
      | (refine WP.condBit rfl ?_ ?_)
      | (refine WP.cond rfl ?_ ?_ <;> intro hcond)
      | refine X.gst ?_ | refine X.gld ?_ | refine X.new ?_ | refine X.app ?_ | refine X.appS ?_ | refine X.stoW ?_ | refine X.stoB ?_ | refine X.stoR ?_ | refine X.gand ?_ | refine X.gor ?_
      | refine nd ?_
      | ((with_reducible apply drwK.mk); (· kernel_rfl); (· exact aF))
      | fail)
    · exfalso
      simp at hcond
      omega
    · refine .f1 (.inl rfl) rfl ?_
      have : k = b := by omega
      subst this
      rw [unitOf, Int.toNat_natCast, ← hq]
      simp
set_option maxHeartbeats 2000000 in
theorem aclFault_T (c : Cf) (a : Ac) (hl : c.Small) : Fun Try.prog 69 [.agg ((encCf c).map .fv), .agg ((encAc a).map .fv)] (.fv (.int .i64 (acFault c a))) := by
  refine Fun.body tbl_ok Try.func69 rfl (by kernel_rfl) rfl rfl rfl ?_
  repeat' (first
    | (apply X.loE; (· exact aR); (· first | exact .callL rfl rfl rfl (in_T _ _ _) rfl | (apply LEff.callBL; (· rfl); (· rfl); (· exact in_T _ _ _); (· exact aB); (· rfl))))
    | refine X.loc ?_
    | refine nx ?_
    | (refine WP.condBit rfl ?_ ?_)
    | (refine WP.cond rfl ?_ ?_ <;> intro hcond)
    | (apply X.gsE; (· exact aR); (· exact aV); (· exact aW); (· intro hc; first | exact .callG rfl rfl rfl (in_T _ _ _) rfl | (apply LEff.callBG; (· rfl); (· rfl); (· exact in_T _ _ _); (· exact aB); (· rfl))); (· exact aR))
    | refine X.gst ?_ | refine X.gld ?_ | refine X.new ?_ | refine X.app ?_ | refine X.appS ?_ | refine X.stoW ?_ | refine X.stoB ?_ | refine X.stoR ?_ | refine X.gand ?_ | refine X.gor ?_
    | ((with_reducible apply drwK.mk); (· kernel_rfl); (· exact aF))
    | fail)
  · refine .f1 (.inl rfl) rfl ?_
    rw [acFault, if_pos (by simpa [or_assoc] using hcond)]
  have h1 : ¬ (inR a.prio 0 1000 = false ∨ inR a.src 0 65535 = false ∨ inR a.dst 0 65535 = false ∨ inR a.srcBits 0 16 = false ∨ inR a.dstBits 0 16 = false ∨ inR a.port (-1) 65535 = false) := by simpa [and_assoc] using hcond
  have g1 := inR_iff.1 (show inR a.src 0 65535 = true by simp_all)
  have g2 := inR_iff.1 (show inR a.dst 0 65535 = true by simp_all)
  have g3 := inR_iff.1 (show inR a.srcBits 0 16 = true by simp_all)
  have g4 := inR_iff.1 (show inR a.dstBits 0 16 = true by simp_all)
  obtain ⟨sb, hsb⟩ := Int.eq_ofNat_of_zero_le g3.1
  obtain ⟨db, hdb⟩ := Int.eq_ofNat_of_zero_le g4.1
  have m1 := unit_T sb (by omega)
  have m2 := unit_T db (by omega)
  rw [← hsb] at m1
  rw [← hdb] at m2
  have p1 : 0 < unitOf a.srcBits := by unfold unitOf; exact Int.pow_pos (by omega)
  have p2 : 0 < unitOf a.dstBits := by unfold unitOf; exact Int.pow_pos (by omega)
  have hsec : (a.src % unitOf a.srcBits != 0 || a.dst % unitOf a.dstBits != 0) = true ↔ (a.src % unitOf a.srcBits ≠ 0 ∨ a.dst % unitOf a.dstBits ≠ 0) := by
    rw [Bool.or_eq_true, bne_iff_ne, bne_iff_ne]
  clear hcond
  repeat' (first
    | (apply X.loE; (· exact aR); (· first | exact .callL rfl rfl rfl (by first | exact m1 | exact m2 | exact switchOf_T c _ hl) rfl | (apply LEff.callBL; (· rfl); (· rfl); (· exact m1); (· exact aB); (· rfl)) | (apply LEff.callBL; (· rfl); (· rfl); (· exact m2); (· exact aB); (· rfl)) | (apply LEff.callBL; (· rfl); (· rfl); (· exact switchOf_T c _ hl); (· exact aB); (· rfl))))
    | refine X.loc ?_
    | refine nx ?_
    | (refine WP.condBit rfl ?_ ?_)
    | (refine WP.cond rfl ?_ ?_ <;> intro hcond)
    | (apply X.gsE; (· exact aR); (· exact aV); (· exact aW); (· intro hc; first | exact .callG rfl rfl rfl (by first | exact m1 | exact m2 | exact switchOf_T c _ hl) rfl | (apply LEff.callBG; (· rfl); (· rfl); (· exact m1); (· exact aB); (· rfl)) | (apply LEff.callBG; (· rfl); (· rfl); (· exact m2); (· exact aB); (· rfl)) | (apply LEff.callBG; (· rfl); (· rfl); (· exact switchOf_T c _ hl); (· exact aB); (· rfl))); (· exact aR))
    | refine X.gst ?_ | refine X.gld ?_ | refine X.new ?_ | refine X.app ?_ | refine X.appS ?_ | refine X.stoW ?_ | refine X.stoB ?_ | refine X.stoR ?_ | refine X.gand ?_ | refine X.gor ?_
    | refine nd ?_
    | ((with_reducible apply drwK.mk); (· kernel_rfl); (· exact aF))
    | fail)
  · refine .f1 (.inl rfl) rfl ?_
    rw [acFault, if_neg h1, if_pos (hsec.1 hcond)]
  · refine .f1 (.inl rfl) rfl ?_
    rename_i h2
    rw [acFault, if_neg h1, if_neg (fun h => by rw [hsec.2 h] at h2; cases h2), if_pos (by simpa only [Bool.not_eq_true'] using hcond)]
  · refine .f1 (.inl rfl) rfl ?_
    rename_i h2 h3
    rw [acFault, if_neg h1, if_neg (fun h => by rw [hsec.2 h] at h2; cases h2), if_neg (by simpa only [Bool.not_eq_false', Bool.not_eq_false] using h3), if_pos (by simp at hcond; omega)]
  · refine .f1 (.inl rfl) rfl ?_
    rename_i h2 h3
    rw [acFault, if_neg h1, if_neg (fun h => by rw [hsec.2 h] at h2; cases h2), if_neg (by simpa only [Bool.not_eq_false', Bool.not_eq_false] using h3), if_neg (by simp at hcond; omega)]
end Go.Proofs.Ytdbbmjdeeenlhaa

/- What is wanted: may it be? The program's answer. -/
namespace Go.Proofs.Ytdbbmjdeeenlhaa
open Go.RowKit
set_option maxRecDepth 100000

theorem take_snoc {α : Type} {l : List α} {k : Nat} {x : α} (h : l[k]? = some x) : l.take (k + 1) = l.take k ++ [x] := by
  rw [List.take_add_one, h]
  rfl
theorem drop_at {α : Type} {l : List α} {k : Nat} {x : α} (hx : l[k]? = some x) : l.drop k = x :: l.drop (k + 1) := by
  have hlt := (List.getElem?_eq_some_iff.1 hx).1
  rw [List.drop_eq_getElem_cons hlt, (List.getElem?_eq_some_iff.1 hx).2]
theorem sws_at {l : List Sw} {k : Nat} {x : Sw} {ps : List Po} {acs : List Ac} (hx : l[k]? = some x) : swsMay ⟨l.take k, ps, acs⟩ (l.drop k) = (decide (swFault ⟨l.take k, ps, acs⟩ x = 0) && swsMay ⟨l.take (k + 1), ps, acs⟩ (l.drop (k + 1))) := by
  rw [drop_at hx, swsMay, take_snoc hx]
theorem pos_at {l : List Po} {k : Nat} {x : Po} {ss : List Sw} {acs : List Ac} (hx : l[k]? = some x) : posMay ⟨ss, l.take k, acs⟩ (l.drop k) = (decide (poFault ⟨ss, l.take k, acs⟩ x = 0) && posMay ⟨ss, l.take (k + 1), acs⟩ (l.drop (k + 1))) := by
  rw [drop_at hx, posMay, take_snoc hx]
theorem acs_at {l : List Ac} {k : Nat} {x : Ac} {ss : List Sw} {ps : List Po} (hx : l[k]? = some x) : acsMay ⟨ss, ps, l.take k⟩ (l.drop k) = (decide (acFault ⟨ss, ps, l.take k⟩ x = 0) && acsMay ⟨ss, ps, l.take (k + 1)⟩ (l.drop (k + 1))) := by
  rw [drop_at hx, acsMay, take_snoc hx]
theorem cut_small {c : Cf} (hl : c.Small) (i j k : Nat) : Cf.Small ⟨c.ss.take i, c.ps.take j, c.acs.take k⟩ :=
  ⟨Nat.lt_of_le_of_lt (List.length_take_le' _ _) hl.1, Nat.lt_of_le_of_lt (List.length_take_le' _ _) hl.2.1, Nat.lt_of_le_of_lt (List.length_take_le' _ _) hl.2.2⟩
theorem int_ne {a : Int} (h : (a != 0) = true) : a ≠ 0 := by simpa using h
theorem int_eq {a : Int} (h : (a != 0) = false) : a = 0 := by simpa using h

set_option maxHeartbeats 4000000 in
theorem confCheck_T (c : Cf) (hl : c.Small) : Fun Try.prog 27 [.agg ((encCf c).map .fv)] (.fv (.int .i64 (if cfMay c = true then 0 else 8))) := by
  have hl1 := hl.1
  have hl2 := hl.2.1
  have hl3 := hl.2.2
  refine Fun.body tbl_ok Try.func27 rfl (by kernel_rfl) rfl rfl rfl ?_
  repeat' (first
    | refine X.loc ?_
    | refine nx ?_
    | (refine WP.condBit rfl ?_ ?_)
    | (refine WP.cond rfl ?_ ?_ <;> intro hcond)
    | refine X.gst ?_ | refine X.gld ?_ | refine X.new ?_ | refine X.app ?_ | refine X.appS ?_ | refine X.stoW ?_ | refine X.stoB ?_ | refine X.stoR ?_ | refine X.gand ?_ | refine X.gor ?_
    | refine nd ?_
    | ((with_reducible apply drwK.mk); (· kernel_rfl); (· exact aF))
    | fail)
  refine WP.loop (ι := Nat) (fun k => ⟨[(1, .optr 1 0), (3, .optr 3 0), (12, .fv (slOf encSw c.ss)), (13, .fv (.int .i64 c.ss.length)), (14, .fv (.int .i64 k))], [ (1, .box 50 ((encCf c).map .fv)), (3, .box 50 [.osl 900, .nil, .nil]), (900, .row 52 3 (c.ss.take k).length (((c.ss.take k).flatMap encSw).map .fv))]⟩)
    (fun k => k ≤ c.ss.length ∧ k ≤ 12 ∧ swsMay ⟨[], [], []⟩ c.ss = swsMay ⟨c.ss.take k, [], []⟩ (c.ss.drop k)) (fun k => c.ss.length - k) 0 ⟨by omega, by omega, rfl⟩ ?_ ?_
  · skip
    refine St.to [(900, .nil)] [] rfl rfl ?_ ?_ <;> (repeat' (first | exact tA | refine t1 ?_ | exact tB | refine t2 ?_ ?_ | refine t3 ?_ | refine t4 ?_ ?_ | refine .ofEq ?_ | refine OB.To.cut rfl rfl ?_ ?_ ?_ ?_ | refine OB.To.box rfl rfl ?_ | refine ⟨⟨_, rfl, ?_⟩, ?_⟩ | refine ⟨?_, ?_⟩ | fail))
  rintro k ⟨hk, hk12, hd⟩
  try dsimp only
  have hlen : (c.ss.take k).length ≤ 12 := by simp; omega
  by_cases hlt : k < c.ss.length
  case pos =>
    obtain ⟨x, hx⟩ : ∃ x, c.ss[k]? = some x := ⟨_, List.getElem?_eq_getElem hlt⟩
    have hat := sws_at (ps := []) (acs := []) hx
    have hsm : Cf.Small ⟨c.ss.take k, [], []⟩ := by have := cut_small hl k 0 0; simpa using this
    repeat' (first
      | (apply X.loE; (· exact aR); (· first | (exact .eff (.idxS rfl rfl rfl encSw_len hx)) | exact .callL rfl rfl rfl (addSwitch_T ⟨c.ss.take k, [], []⟩ x hsm (by intro p hp; simp at hp) hlen) rfl | (apply LEff.callBL; (· rfl); (· rfl); (· exact addSwitch_T ⟨c.ss.take k, [], []⟩ x hsm (by intro p hp; simp at hp) hlen); (· exact aB); (· rfl))))
      | refine X.loc ?_
      | refine nx ?_
      | (refine WP.condBit rfl ?_ ?_)
      | (refine WP.cond rfl ?_ ?_ <;> intro hcond)
      | (apply X.gsE; (· exact aR); (· exact aV); (· exact aW); (· intro hc; first | (exact .eff (.idxS rfl rfl rfl encSw_len hx)) | exact .callG rfl rfl rfl (addSwitch_T ⟨c.ss.take k, [], []⟩ x hsm (by intro p hp; simp at hp) hlen) rfl | (apply LEff.callBG; (· rfl); (· rfl); (· exact addSwitch_T ⟨c.ss.take k, [], []⟩ x hsm (by intro p hp; simp at hp) hlen); (· exact aB); (· rfl))); (· exact aR))
      | refine X.gst ?_ | refine X.gld ?_ | refine X.new ?_ | refine X.app ?_ | refine X.appS ?_ | refine X.stoW ?_ | refine X.stoB ?_ | refine X.stoR ?_ | refine X.gand ?_ | refine X.gor ?_
      | refine nd ?_
      | ((with_reducible apply drwK.mk); (· kernel_rfl); (· exact aF))
      | fail)
    · refine .f1 (.inl rfl) rfl ?_
      have : cfMay c = false := by
        unfold cfMay
        rw [hd, hat, decide_eq_false (int_ne hcond)]
        rfl
      rw [this]
      rfl
    · have h0 := int_eq hcond
      have := swFault_lt h0
      refine ⟨k + 1, ⟨by omega, by simp at this; omega, ?_⟩, by omega, ?_⟩
      · rw [hd, hat, decide_eq_true h0]
        rfl
      · skip
        refine St.to [(900, .id 26)] [] rfl rfl ?_ ?_ <;> (repeat' (first | exact tA | refine t1 ?_ | exact tB | refine t2 ?_ ?_ | refine t3 ?_ | refine t4 ?_ ?_ | refine .ofEq ?_ | refine OB.To.cut rfl rfl ?_ ?_ ?_ ?_ | refine OB.To.box rfl rfl ?_ | refine ⟨⟨_, rfl, ?_⟩, ?_⟩ | refine ⟨?_, ?_⟩ | fail))
        all_goals first | exact (take_len hx).symm | (rw [take_flat hx, List.map_append]; rfl)
    · exfalso
      simp at hcond
      omega
  case neg =>
    have hek : k = c.ss.length := by omega
    subst hek
    rw [List.drop_of_length_le (Nat.le_refl _)] at hd
    have hsw : swsMay ⟨[], [], []⟩ c.ss = true := hd
    repeat' (first
      | refine X.loc ?_
      | refine nx ?_
      | (refine WP.condBit rfl ?_ ?_)
      | (refine WP.cond rfl ?_ ?_ <;> intro hcond)
      | refine X.gst ?_ | refine X.gld ?_ | refine X.new ?_ | refine X.app ?_ | refine X.appS ?_ | refine X.stoW ?_ | refine X.stoB ?_ | refine X.stoR ?_ | refine X.gand ?_ | refine X.gor ?_
      | refine nd ?_
      | ((with_reducible apply drwK.mk); (· kernel_rfl); (· exact aF))
      | fail)
    · exfalso
      simp at hcond
    refine WP.loop (ι := Nat) (fun k => ⟨[(1, .optr 1 0), (3, .optr 3 0), (30, .fv (slOf encPo c.ps)), (31, .fv (.int .i64 c.ps.length)), (32, .fv (.int .i64 k))], [ (1, .box 50 ((encCf c).map .fv)), (3, .box 50 [.osl 900, .osl 901, .nil]), (900, .row 52 3 c.ss.length ((c.ss.flatMap encSw).map .fv)), (901, .row 54 5 (c.ps.take k).length (((c.ps.take k).flatMap encPo).map .fv))]⟩)
      (fun k => k ≤ c.ps.length ∧ k ≤ 40 ∧ Cf.Wf ⟨c.ss, c.ps.take k, []⟩ ∧ posMay ⟨c.ss, [], []⟩ c.ps = posMay ⟨c.ss, c.ps.take k, []⟩ (c.ps.drop k)) (fun k => c.ps.length - k) 0 ⟨by omega, by omega, (by intro p hp; simp at hp), rfl⟩ ?_ ?_
    · skip
      refine St.to [(901, .nil)] [] rfl rfl ?_ ?_ <;> (repeat' (first | exact tA | refine t1 ?_ | exact tB | refine t2 ?_ ?_ | refine t3 ?_ | refine t4 ?_ ?_ | refine .ofEq ?_ | refine OB.To.cut rfl rfl ?_ ?_ ?_ ?_ | refine OB.To.box rfl rfl ?_ | refine ⟨⟨_, rfl, ?_⟩, ?_⟩ | refine ⟨?_, ?_⟩ | fail))
      all_goals rw [List.take_of_length_le (Nat.le_refl _)]
    rintro k ⟨hk, hk40, hwf, hd⟩
    try dsimp only
    have hlen : (c.ps.take k).length ≤ 40 := by simp; omega
    by_cases hlt : k < c.ps.length
    case pos =>
      obtain ⟨x, hx⟩ : ∃ x, c.ps[k]? = some x := ⟨_, List.getElem?_eq_getElem hlt⟩
      have hat := pos_at (ss := c.ss) (acs := []) hx
      have hsm : Cf.Small ⟨c.ss, c.ps.take k, []⟩ := by have := cut_small hl c.ss.length k 0; simpa using this
      repeat' (first
        | (apply X.loE; (· exact aR); (· first | (exact .eff (.idxS rfl rfl rfl encPo_len hx)) | exact .callL rfl rfl rfl (addPort_T ⟨c.ss, c.ps.take k, []⟩ x hsm hwf hlen) rfl | (apply LEff.callBL; (· rfl); (· rfl); (· exact addPort_T ⟨c.ss, c.ps.take k, []⟩ x hsm hwf hlen); (· exact aB); (· rfl))))
        | refine X.loc ?_
        | refine nx ?_
        | (refine WP.condBit rfl ?_ ?_)
        | (refine WP.cond rfl ?_ ?_ <;> intro hcond)
        | (apply X.gsE; (· exact aR); (· exact aV); (· exact aW); (· intro hc; first | (exact .eff (.idxS rfl rfl rfl encPo_len hx)) | exact .callG rfl rfl rfl (addPort_T ⟨c.ss, c.ps.take k, []⟩ x hsm hwf hlen) rfl | (apply LEff.callBG; (· rfl); (· rfl); (· exact addPort_T ⟨c.ss, c.ps.take k, []⟩ x hsm hwf hlen); (· exact aB); (· rfl))); (· exact aR))
        | refine X.gst ?_ | refine X.gld ?_ | refine X.new ?_ | refine X.app ?_ | refine X.appS ?_ | refine X.stoW ?_ | refine X.stoB ?_ | refine X.stoR ?_ | refine X.gand ?_ | refine X.gor ?_
        | refine nd ?_
        | ((with_reducible apply drwK.mk); (· kernel_rfl); (· exact aF))
        | fail)
      · refine .f1 (.inl rfl) rfl ?_
        have : cfMay c = false := by
          unfold cfMay
          rw [hd, hat, decide_eq_false (int_ne hcond), hsw]
          rfl
        rw [this]
        rfl
      · have h0 := int_eq hcond
        have := poFault_lt h0
        refine ⟨k + 1, ⟨by omega, by have := this.1; simp at this; omega, ?_, ?_⟩, by omega, ?_⟩
        · exact take_all (p := fun p : Po => c.ss.any (fun x => x.id == p.sw) = true) hx hwf this.2
        · rw [hd, hat, decide_eq_true h0]
          rfl
        · skip
          refine St.to [(901, .id 44)] [] rfl rfl ?_ ?_ <;> (repeat' (first | exact tA | refine t1 ?_ | exact tB | refine t2 ?_ ?_ | refine t3 ?_ | refine t4 ?_ ?_ | refine .ofEq ?_ | refine OB.To.cut rfl rfl ?_ ?_ ?_ ?_ | refine OB.To.box rfl rfl ?_ | refine ⟨⟨_, rfl, ?_⟩, ?_⟩ | refine ⟨?_, ?_⟩ | fail))
          all_goals first | exact (take_len hx).symm | (rw [take_flat hx, List.map_append]; rfl)
      · exfalso
        simp at hcond
        omega
    case neg =>
      have hek : k = c.ps.length := by omega
      subst hek
      rw [List.drop_of_length_le (Nat.le_refl _)] at hd
      have hpo : posMay ⟨c.ss, [], []⟩ c.ps = true := hd
      repeat' (first
        | refine X.loc ?_
        | refine nx ?_
        | (refine WP.condBit rfl ?_ ?_)
        | (refine WP.cond rfl ?_ ?_ <;> intro hcond)
        | refine X.gst ?_ | refine X.gld ?_ | refine X.new ?_ | refine X.app ?_ | refine X.appS ?_ | refine X.stoW ?_ | refine X.stoB ?_ | refine X.stoR ?_ | refine X.gand ?_ | refine X.gor ?_
        | refine nd ?_
        | ((with_reducible apply drwK.mk); (· kernel_rfl); (· exact aF))
        | fail)
      · exfalso
        simp at hcond
      refine WP.loop (ι := Nat) (fun k => ⟨[(1, .optr 1 0), (3, .optr 3 0), (48, .fv (slOf encAc c.acs)), (49, .fv (.int .i64 c.acs.length)), (50, .fv (.int .i64 k))], [ (1, .box 50 ((encCf c).map .fv)), (3, .box 50 [.osl 900, .osl 901, .osl 902]), (900, .row 52 3 c.ss.length ((c.ss.flatMap encSw).map .fv)), (901, .row 54 5 c.ps.length ((c.ps.flatMap encPo).map .fv)), (902, .row 56 9 (c.acs.take k).length (((c.acs.take k).flatMap encAc).map .fv))]⟩)
        (fun k => k ≤ c.acs.length ∧ k ≤ 40 ∧ acsMay ⟨c.ss, c.ps, []⟩ c.acs = acsMay ⟨c.ss, c.ps, c.acs.take k⟩ (c.acs.drop k)) (fun k => c.acs.length - k) 0 ⟨by omega, by omega, rfl⟩ ?_ ?_
      · skip
        refine St.to [(902, .nil)] [] rfl rfl ?_ ?_ <;> (repeat' (first | exact tA | refine t1 ?_ | exact tB | refine t2 ?_ ?_ | refine t3 ?_ | refine t4 ?_ ?_ | refine .ofEq ?_ | refine OB.To.cut rfl rfl ?_ ?_ ?_ ?_ | refine OB.To.box rfl rfl ?_ | refine ⟨⟨_, rfl, ?_⟩, ?_⟩ | refine ⟨?_, ?_⟩ | fail))
        all_goals rw [List.take_of_length_le (Nat.le_refl _)]
      rintro k ⟨hk, hk40, hd⟩
      try dsimp only
      have hlen : (c.acs.take k).length ≤ 40 := by simp; omega
      by_cases hlt : k < c.acs.length
      case pos =>
        obtain ⟨x, hx⟩ : ∃ x, c.acs[k]? = some x := ⟨_, List.getElem?_eq_getElem hlt⟩
        have hat := acs_at (ss := c.ss) (ps := c.ps) hx
        have hsm : Cf.Small ⟨c.ss, c.ps, c.acs.take k⟩ := by have := cut_small hl c.ss.length c.ps.length k; simpa using this
        repeat' (first
          | (apply X.loE; (· exact aR); (· first | (exact .eff (.idxS rfl rfl rfl encAc_len hx)) | exact .callL rfl rfl rfl (addAcl_T ⟨c.ss, c.ps, c.acs.take k⟩ x hsm hlen) rfl | (apply LEff.callBL; (· rfl); (· rfl); (· exact addAcl_T ⟨c.ss, c.ps, c.acs.take k⟩ x hsm hlen); (· exact aB); (· rfl))))
          | refine X.loc ?_
          | refine nx ?_
          | (refine WP.condBit rfl ?_ ?_)
          | (refine WP.cond rfl ?_ ?_ <;> intro hcond)
          | (apply X.gsE; (· exact aR); (· exact aV); (· exact aW); (· intro hc; first | (exact .eff (.idxS rfl rfl rfl encAc_len hx)) | exact .callG rfl rfl rfl (addAcl_T ⟨c.ss, c.ps, c.acs.take k⟩ x hsm hlen) rfl | (apply LEff.callBG; (· rfl); (· rfl); (· exact addAcl_T ⟨c.ss, c.ps, c.acs.take k⟩ x hsm hlen); (· exact aB); (· rfl))); (· exact aR))
          | refine X.gst ?_ | refine X.gld ?_ | refine X.new ?_ | refine X.app ?_ | refine X.appS ?_ | refine X.stoW ?_ | refine X.stoB ?_ | refine X.stoR ?_ | refine X.gand ?_ | refine X.gor ?_
          | refine nd ?_
          | ((with_reducible apply drwK.mk); (· kernel_rfl); (· exact aF))
          | fail)
        · refine .f1 (.inl rfl) rfl ?_
          have : cfMay c = false := by
            unfold cfMay
            rw [hd, hat, decide_eq_false (int_ne hcond), hsw, hpo]
            rfl
          rw [this]
          rfl
        · have h0 := int_eq hcond
          have := acFault_lt h0
          refine ⟨k + 1, ⟨by omega, by simp at this; omega, ?_⟩, by omega, ?_⟩
          · rw [hd, hat, decide_eq_true h0]
            rfl
          · skip
            refine St.to [(902, .id 62)] [] rfl rfl ?_ ?_ <;> (repeat' (first | exact tA | refine t1 ?_ | exact tB | refine t2 ?_ ?_ | refine t3 ?_ | refine t4 ?_ ?_ | refine .ofEq ?_ | refine OB.To.cut rfl rfl ?_ ?_ ?_ ?_ | refine OB.To.box rfl rfl ?_ | refine ⟨⟨_, rfl, ?_⟩, ?_⟩ | refine ⟨?_, ?_⟩ | fail))
            all_goals first | exact (take_len hx).symm | (rw [take_flat hx, List.map_append]; rfl)
        · exfalso
          simp at hcond
          omega
      case neg =>
        have hek : k = c.acs.length := by omega
        subst hek
        rw [List.drop_of_length_le (Nat.le_refl _)] at hd
        have hac : acsMay ⟨c.ss, c.ps, []⟩ c.acs = true := hd
        have hall : cfMay c = true := by
          unfold cfMay
          rw [hsw, hpo, hac]
          rfl
        repeat' (first
          | refine X.loc ?_
          | refine nx ?_
          | (refine WP.condBit rfl ?_ ?_)
          | (refine WP.cond rfl ?_ ?_ <;> intro hcond)
          | refine X.gst ?_ | refine X.gld ?_ | refine X.new ?_ | refine X.app ?_ | refine X.appS ?_ | refine X.stoW ?_ | refine X.stoB ?_ | refine X.stoR ?_ | refine X.gand ?_ | refine X.gor ?_
          | refine nd ?_
          | ((with_reducible apply drwK.mk); (· kernel_rfl); (· exact aF))
          | fail)
        · exfalso
          simp at hcond
        · refine .f1 (.inl rfl) rfl ?_
          rw [hall]
          rfl
end Go.Proofs.Ytdbbmjdeeenlhaa

/- What is wanted: may it be? The document's answer. -/
namespace Go.Proofs.Ytdbbmjdeeenlhaa
open Go.RowKit
set_option maxRecDepth 100000

set_option maxHeartbeats 4000000 in
theorem confMay_T (c : Cf) (hl : c.Small) : Fun Try.prog 50 [.agg ((encCf c).map .fv)] (.fv (.bool (cfMay c))) := by
  have hl1 := hl.1
  have hl2 := hl.2.1
  have hl3 := hl.2.2
  refine Fun.body tbl_ok Try.func50 rfl (by kernel_rfl) rfl rfl rfl ?_
  repeat' (first
    | refine X.loc ?_
    | refine nx ?_
    | (refine WP.condBit rfl ?_ ?_)
    | (refine WP.cond rfl ?_ ?_ <;> intro hcond)
    | refine X.gst ?_ | refine X.gld ?_ | refine X.new ?_ | refine X.app ?_ | refine X.appS ?_ | refine X.stoW ?_ | refine X.stoB ?_ | refine X.stoR ?_ | refine X.gand ?_ | refine X.gor ?_
    | refine nd ?_
    | ((with_reducible apply drwK.mk); (· kernel_rfl); (· exact aF))
    | fail)
  refine WP.loop (ι := Nat) (fun k => ⟨[(1, .optr 1 0), (3, .optr 3 0), (4, .fv (.int .i64 k))], [ (1, .box 50 ((encCf c).map .fv)), (3, .box 50 [.osl 900, .nil, .nil]), (900, .row 52 3 (c.ss.take k).length (((c.ss.take k).flatMap encSw).map .fv))]⟩)
    (fun k => k ≤ c.ss.length ∧ k ≤ 12 ∧ swsMay ⟨[], [], []⟩ c.ss = swsMay ⟨c.ss.take k, [], []⟩ (c.ss.drop k)) (fun k => c.ss.length - k) 0 ⟨by omega, by omega, rfl⟩ ?_ ?_
  · skip
    refine St.to [(900, .nil)] [] rfl rfl ?_ ?_ <;> (repeat' (first | exact tA | refine t1 ?_ | exact tB | refine t2 ?_ ?_ | refine t3 ?_ | refine t4 ?_ ?_ | refine .ofEq ?_ | refine OB.To.cut rfl rfl ?_ ?_ ?_ ?_ | refine OB.To.box rfl rfl ?_ | refine ⟨⟨_, rfl, ?_⟩, ?_⟩ | refine ⟨?_, ?_⟩ | fail))
  rintro k ⟨hk, hk12, hd⟩
  try dsimp only
  have hlen : (c.ss.take k).length ≤ 12 := by simp; omega
  by_cases hlt : k < c.ss.length
  case pos =>
    obtain ⟨x, hx⟩ : ∃ x, c.ss[k]? = some x := ⟨_, List.getElem?_eq_getElem hlt⟩
    have hat := sws_at (ps := []) (acs := []) hx
    have hsm : Cf.Small ⟨c.ss.take k, [], []⟩ := by have := cut_small hl k 0 0; simpa using this
    repeat' (first
      | (apply X.loE; (· exact aR); (· first | (exact .eff (.idxS rfl rfl rfl encSw_len hx)) | exact .callL rfl rfl rfl (switchFault_T ⟨c.ss.take k, [], []⟩ x hsm) rfl | (apply LEff.callBL; (· rfl); (· rfl); (· exact switchFault_T ⟨c.ss.take k, [], []⟩ x hsm); (· exact aB); (· rfl))))
      | refine X.loc ?_
      | refine nx ?_
      | (refine WP.condBit rfl ?_ ?_)
      | (refine WP.cond rfl ?_ ?_ <;> intro hcond)
      | (apply X.gsE; (· exact aR); (· exact aV); (· exact aW); (· intro hc; first | (exact .eff (.idxS rfl rfl rfl encSw_len hx)) | exact .callG rfl rfl rfl (switchFault_T ⟨c.ss.take k, [], []⟩ x hsm) rfl | (apply LEff.callBG; (· rfl); (· rfl); (· exact switchFault_T ⟨c.ss.take k, [], []⟩ x hsm); (· exact aB); (· rfl))); (· exact aR))
      | refine X.gst ?_ | refine X.gld ?_ | refine X.new ?_ | refine X.app ?_ | refine X.appS ?_ | refine X.stoW ?_ | refine X.stoB ?_ | refine X.stoR ?_ | refine X.gand ?_ | refine X.gor ?_
      | refine nd ?_
      | ((with_reducible apply drwK.mk); (· kernel_rfl); (· exact aF))
      | fail)
    · refine .f1 (.inl rfl) rfl ?_
      have : cfMay c = false := by
        unfold cfMay
        rw [hd, hat, decide_eq_false (int_ne hcond)]
        rfl
      rw [this]
    · have h0 := int_eq hcond
      have := swFault_lt h0
      refine ⟨k + 1, ⟨by omega, by simp at this; omega, ?_⟩, by omega, ?_⟩
      · rw [hd, hat, decide_eq_true h0]
        rfl
      · skip
        refine St.to [(900, .id 31)] [] rfl rfl ?_ ?_ <;> (repeat' (first | exact tA | refine t1 ?_ | exact tB | refine t2 ?_ ?_ | refine t3 ?_ | refine t4 ?_ ?_ | refine .ofEq ?_ | refine OB.To.cut rfl rfl ?_ ?_ ?_ ?_ | refine OB.To.box rfl rfl ?_ | refine ⟨⟨_, rfl, ?_⟩, ?_⟩ | refine ⟨?_, ?_⟩ | fail))
        all_goals first | exact (take_len hx).symm | (rw [take_flat hx, List.map_append]; rfl)
    · exfalso
      simp at hcond
      omega
  case neg =>
    have hek : k = c.ss.length := by omega
    subst hek
    rw [List.drop_of_length_le (Nat.le_refl _)] at hd
    have hsw : swsMay ⟨[], [], []⟩ c.ss = true := hd
    repeat' (first
      | refine X.loc ?_
      | refine nx ?_
      | (refine WP.condBit rfl ?_ ?_)
      | (refine WP.cond rfl ?_ ?_ <;> intro hcond)
      | refine X.gst ?_ | refine X.gld ?_ | refine X.new ?_ | refine X.app ?_ | refine X.appS ?_ | refine X.stoW ?_ | refine X.stoB ?_ | refine X.stoR ?_ | refine X.gand ?_ | refine X.gor ?_
      | refine nd ?_
      | ((with_reducible apply drwK.mk); (· kernel_rfl); (· exact aF))
      | fail)
    · exfalso
      simp at hcond
    refine WP.loop (ι := Nat) (fun k => ⟨[(1, .optr 1 0), (3, .optr 3 0), (5, .fv (.int .i64 k))], [ (1, .box 50 ((encCf c).map .fv)), (3, .box 50 [.osl 900, .osl 901, .nil]), (900, .row 52 3 c.ss.length ((c.ss.flatMap encSw).map .fv)), (901, .row 54 5 (c.ps.take k).length (((c.ps.take k).flatMap encPo).map .fv))]⟩)
      (fun k => k ≤ c.ps.length ∧ k ≤ 40 ∧ Cf.Wf ⟨c.ss, c.ps.take k, []⟩ ∧ posMay ⟨c.ss, [], []⟩ c.ps = posMay ⟨c.ss, c.ps.take k, []⟩ (c.ps.drop k)) (fun k => c.ps.length - k) 0 ⟨by omega, by omega, (by intro p hp; simp at hp), rfl⟩ ?_ ?_
    · skip
      refine St.to [(901, .nil)] [] rfl rfl ?_ ?_ <;> (repeat' (first | exact tA | refine t1 ?_ | exact tB | refine t2 ?_ ?_ | refine t3 ?_ | refine t4 ?_ ?_ | refine .ofEq ?_ | refine OB.To.cut rfl rfl ?_ ?_ ?_ ?_ | refine OB.To.box rfl rfl ?_ | refine ⟨⟨_, rfl, ?_⟩, ?_⟩ | refine ⟨?_, ?_⟩ | fail))
      all_goals rw [List.take_of_length_le (Nat.le_refl _)]
    rintro k ⟨hk, hk40, hwf, hd⟩
    try dsimp only
    have hlen : (c.ps.take k).length ≤ 40 := by simp; omega
    by_cases hlt : k < c.ps.length
    case pos =>
      obtain ⟨x, hx⟩ : ∃ x, c.ps[k]? = some x := ⟨_, List.getElem?_eq_getElem hlt⟩
      have hat := pos_at (ss := c.ss) (acs := []) hx
      have hsm : Cf.Small ⟨c.ss, c.ps.take k, []⟩ := by have := cut_small hl c.ss.length k 0; simpa using this
      repeat' (first
        | (apply X.loE; (· exact aR); (· first | (exact .eff (.idxS rfl rfl rfl encPo_len hx)) | exact .callL rfl rfl rfl (portFault_T ⟨c.ss, c.ps.take k, []⟩ x hsm) rfl | (apply LEff.callBL; (· rfl); (· rfl); (· exact portFault_T ⟨c.ss, c.ps.take k, []⟩ x hsm); (· exact aB); (· rfl))))
        | refine X.loc ?_
        | refine nx ?_
        | (refine WP.condBit rfl ?_ ?_)
        | (refine WP.cond rfl ?_ ?_ <;> intro hcond)
        | (apply X.gsE; (· exact aR); (· exact aV); (· exact aW); (· intro hc; first | (exact .eff (.idxS rfl rfl rfl encPo_len hx)) | exact .callG rfl rfl rfl (portFault_T ⟨c.ss, c.ps.take k, []⟩ x hsm) rfl | (apply LEff.callBG; (· rfl); (· rfl); (· exact portFault_T ⟨c.ss, c.ps.take k, []⟩ x hsm); (· exact aB); (· rfl))); (· exact aR))
        | refine X.gst ?_ | refine X.gld ?_ | refine X.new ?_ | refine X.app ?_ | refine X.appS ?_ | refine X.stoW ?_ | refine X.stoB ?_ | refine X.stoR ?_ | refine X.gand ?_ | refine X.gor ?_
        | refine nd ?_
        | ((with_reducible apply drwK.mk); (· kernel_rfl); (· exact aF))
        | fail)
      · refine .f1 (.inl rfl) rfl ?_
        have : cfMay c = false := by
          unfold cfMay
          rw [hd, hat, decide_eq_false (int_ne hcond), hsw]
          rfl
        rw [this]
      · have h0 := int_eq hcond
        have := poFault_lt h0
        refine ⟨k + 1, ⟨by omega, by have := this.1; simp at this; omega, ?_, ?_⟩, by omega, ?_⟩
        · exact take_all (p := fun p : Po => c.ss.any (fun x => x.id == p.sw) = true) hx hwf this.2
        · rw [hd, hat, decide_eq_true h0]
          rfl
        · skip
          refine St.to [(901, .id 56)] [] rfl rfl ?_ ?_ <;> (repeat' (first | exact tA | refine t1 ?_ | exact tB | refine t2 ?_ ?_ | refine t3 ?_ | refine t4 ?_ ?_ | refine .ofEq ?_ | refine OB.To.cut rfl rfl ?_ ?_ ?_ ?_ | refine OB.To.box rfl rfl ?_ | refine ⟨⟨_, rfl, ?_⟩, ?_⟩ | refine ⟨?_, ?_⟩ | fail))
          all_goals first | exact (take_len hx).symm | (rw [take_flat hx, List.map_append]; rfl)
      · exfalso
        simp at hcond
        omega
    case neg =>
      have hek : k = c.ps.length := by omega
      subst hek
      rw [List.drop_of_length_le (Nat.le_refl _)] at hd
      have hpo : posMay ⟨c.ss, [], []⟩ c.ps = true := hd
      repeat' (first
        | refine X.loc ?_
        | refine nx ?_
        | (refine WP.condBit rfl ?_ ?_)
        | (refine WP.cond rfl ?_ ?_ <;> intro hcond)
        | refine X.gst ?_ | refine X.gld ?_ | refine X.new ?_ | refine X.app ?_ | refine X.appS ?_ | refine X.stoW ?_ | refine X.stoB ?_ | refine X.stoR ?_ | refine X.gand ?_ | refine X.gor ?_
        | refine nd ?_
        | ((with_reducible apply drwK.mk); (· kernel_rfl); (· exact aF))
        | fail)
      · exfalso
        simp at hcond
      refine WP.loop (ι := Nat) (fun k => ⟨[(1, .optr 1 0), (3, .optr 3 0), (6, .fv (.int .i64 k))], [ (1, .box 50 ((encCf c).map .fv)), (3, .box 50 [.osl 900, .osl 901, .osl 902]), (900, .row 52 3 c.ss.length ((c.ss.flatMap encSw).map .fv)), (901, .row 54 5 c.ps.length ((c.ps.flatMap encPo).map .fv)), (902, .row 56 9 (c.acs.take k).length (((c.acs.take k).flatMap encAc).map .fv))]⟩)
        (fun k => k ≤ c.acs.length ∧ k ≤ 40 ∧ acsMay ⟨c.ss, c.ps, []⟩ c.acs = acsMay ⟨c.ss, c.ps, c.acs.take k⟩ (c.acs.drop k)) (fun k => c.acs.length - k) 0 ⟨by omega, by omega, rfl⟩ ?_ ?_
      · skip
        refine St.to [(902, .nil)] [] rfl rfl ?_ ?_ <;> (repeat' (first | exact tA | refine t1 ?_ | exact tB | refine t2 ?_ ?_ | refine t3 ?_ | refine t4 ?_ ?_ | refine .ofEq ?_ | refine OB.To.cut rfl rfl ?_ ?_ ?_ ?_ | refine OB.To.box rfl rfl ?_ | refine ⟨⟨_, rfl, ?_⟩, ?_⟩ | refine ⟨?_, ?_⟩ | fail))
        all_goals rw [List.take_of_length_le (Nat.le_refl _)]
      rintro k ⟨hk, hk40, hd⟩
      try dsimp only
      have hlen : (c.acs.take k).length ≤ 40 := by simp; omega
      by_cases hlt : k < c.acs.length
      case pos =>
        obtain ⟨x, hx⟩ : ∃ x, c.acs[k]? = some x := ⟨_, List.getElem?_eq_getElem hlt⟩
        have hat := acs_at (ss := c.ss) (ps := c.ps) hx
        have hsm : Cf.Small ⟨c.ss, c.ps, c.acs.take k⟩ := by have := cut_small hl c.ss.length c.ps.length k; simpa using this
        repeat' (first
          | (apply X.loE; (· exact aR); (· first | (exact .eff (.idxS rfl rfl rfl encAc_len hx)) | exact .callL rfl rfl rfl (aclFault_T ⟨c.ss, c.ps, c.acs.take k⟩ x hsm) rfl | (apply LEff.callBL; (· rfl); (· rfl); (· exact aclFault_T ⟨c.ss, c.ps, c.acs.take k⟩ x hsm); (· exact aB); (· rfl))))
          | refine X.loc ?_
          | refine nx ?_
          | (refine WP.condBit rfl ?_ ?_)
          | (refine WP.cond rfl ?_ ?_ <;> intro hcond)
          | (apply X.gsE; (· exact aR); (· exact aV); (· exact aW); (· intro hc; first | (exact .eff (.idxS rfl rfl rfl encAc_len hx)) | exact .callG rfl rfl rfl (aclFault_T ⟨c.ss, c.ps, c.acs.take k⟩ x hsm) rfl | (apply LEff.callBG; (· rfl); (· rfl); (· exact aclFault_T ⟨c.ss, c.ps, c.acs.take k⟩ x hsm); (· exact aB); (· rfl))); (· exact aR))
          | refine X.gst ?_ | refine X.gld ?_ | refine X.new ?_ | refine X.app ?_ | refine X.appS ?_ | refine X.stoW ?_ | refine X.stoB ?_ | refine X.stoR ?_ | refine X.gand ?_ | refine X.gor ?_
          | refine nd ?_
          | ((with_reducible apply drwK.mk); (· kernel_rfl); (· exact aF))
          | fail)
        · refine .f1 (.inl rfl) rfl ?_
          have : cfMay c = false := by
            unfold cfMay
            rw [hd, hat, decide_eq_false (int_ne hcond), hsw, hpo]
            rfl
          rw [this]
        · have h0 := int_eq hcond
          have := acFault_lt h0
          refine ⟨k + 1, ⟨by omega, by simp at this; omega, ?_⟩, by omega, ?_⟩
          · rw [hd, hat, decide_eq_true h0]
            rfl
          · skip
            refine St.to [(902, .id 81)] [] rfl rfl ?_ ?_ <;> (repeat' (first | exact tA | refine t1 ?_ | exact tB | refine t2 ?_ ?_ | refine t3 ?_ | refine t4 ?_ ?_ | refine .ofEq ?_ | refine OB.To.cut rfl rfl ?_ ?_ ?_ ?_ | refine OB.To.box rfl rfl ?_ | refine ⟨⟨_, rfl, ?_⟩, ?_⟩ | refine ⟨?_, ?_⟩ | fail))
            all_goals first | exact (take_len hx).symm | (rw [take_flat hx, List.map_append]; rfl)
        · exfalso
          simp at hcond
          omega
      case neg =>
        have hek : k = c.acs.length := by omega
        subst hek
        rw [List.drop_of_length_le (Nat.le_refl _)] at hd
        have hac : acsMay ⟨c.ss, c.ps, []⟩ c.acs = true := hd
        have hall : cfMay c = true := by
          unfold cfMay
          rw [hsw, hpo, hac]
          rfl
        repeat' (first
          | refine X.loc ?_
          | refine nx ?_
          | (refine WP.condBit rfl ?_ ?_)
          | (refine WP.cond rfl ?_ ?_ <;> intro hcond)
          | refine X.gst ?_ | refine X.gld ?_ | refine X.new ?_ | refine X.app ?_ | refine X.appS ?_ | refine X.stoW ?_ | refine X.stoB ?_ | refine X.stoR ?_ | refine X.gand ?_ | refine X.gor ?_
          | refine nd ?_
          | ((with_reducible apply drwK.mk); (· kernel_rfl); (· exact aF))
          | fail)
        · exfalso
          simp at hcond
        · refine .f1 (.inl rfl) rfl ?_
          rw [hall]
end Go.Proofs.Ytdbbmjdeeenlhaa

/- Copies in memory of their own; what is cut out of a row. -/
namespace Go.Proofs.Ytdbbmjdeeenlhaa
open Go.RowKit
set_option maxRecDepth 100000

theorem cloneSw_T (l : List Sw) (hl : l.length * 24 ≤ 140737488355328) : FunO Try.prog 71 [.fv (slOf encSw l)] [] (.osl 7) [(7, .row 52 3 l.length ((l.flatMap encSw).map .fv))] := by
  refine FunO.bodyL tbl_ok Try.func71 rfl (by kernel_rfl) rfl rfl rfl ?_
  rcases Nat.eq_zero_or_pos l.length with h0 | h0
  · obtain rfl := List.eq_nil_of_length_eq_zero h0
    repeat' (first
      | refine X.loc ?_
      | refine nx ?_
      | (refine WP.condBit rfl ?_ ?_)
      | (refine WP.cond rfl ?_ ?_ <;> intro hcond)
      | refine X.gst ?_ | refine X.gld ?_ | refine X.new ?_ | refine X.app ?_ | refine X.appS ?_ | refine X.stoW ?_ | refine X.stoB ?_ | refine X.stoR ?_ | refine X.gand ?_ | refine X.gor ?_
      | refine nd ?_
      | ((with_reducible apply drwK.mk); (· kernel_rfl); (· exact aF))
      | fail)
    · skip
      refine .ofL (s' := ⟨[(2, .osl 7)], [(7, .row 52 3 0 [])]⟩) (by first | exact .inl rfl | exact .inr rfl) ?_ rfl rfl (by repeat' (first | exact trivial | refine ⟨⟨_, rfl, fun _ _ _ _ h => h⟩, ?_⟩))
      refine St.to [(7, .nil)] [] rfl rfl ?_ ?_ <;> (repeat' (first | exact tA | refine t1 ?_ | exact tB | refine t2 ?_ ?_ | refine t3 ?_ | refine t4 ?_ ?_ | refine .ofEq ?_ | refine OB.To.cut rfl rfl ?_ ?_ ?_ ?_ | refine OB.To.box rfl rfl ?_ | refine ⟨⟨_, rfl, ?_⟩, ?_⟩ | refine ⟨?_, ?_⟩ | fail))
    · skip
      refine .ofL (s' := ⟨[(2, .osl 7)], [(7, .row 52 3 0 [])]⟩) (by first | exact .inl rfl | exact .inr rfl) ?_ rfl rfl (by repeat' (first | exact trivial | refine ⟨⟨_, rfl, fun _ _ _ _ h => h⟩, ?_⟩))
      refine St.to [(7, .id 7)] [] rfl rfl ?_ ?_ <;> (repeat' (first | exact tA | refine t1 ?_ | exact tB | refine t2 ?_ ?_ | refine t3 ?_ | refine t4 ?_ ?_ | refine .ofEq ?_ | refine OB.To.cut rfl rfl ?_ ?_ ?_ ?_ | refine OB.To.box rfl rfl ?_ | refine ⟨⟨_, rfl, ?_⟩, ?_⟩ | refine ⟨?_, ?_⟩ | fail))
      rfl
  · skip
    repeat' (first
      | refine X.loc ?_
      | refine nx ?_
      | (refine WP.condBit rfl ?_ ?_)
      | (refine WP.cond rfl ?_ ?_ <;> intro hcond)
      | refine X.gst ?_ | refine X.gld ?_ | refine X.new ?_ | refine X.app ?_ | refine X.appS ?_ | refine X.stoW ?_ | refine X.stoB ?_ | refine X.stoR ?_ | refine X.gand ?_ | refine X.gor ?_
      | refine nd ?_
      | ((with_reducible apply drwK.mk); (· kernel_rfl); (· exact aF))
      | fail)
    refine .ofL (s' := ⟨[(2, .osl 7)], [(7, .row 52 3 l.length ((l.flatMap encSw).map .fv))]⟩) (by first | exact .inl rfl | exact .inr rfl) ?_ rfl rfl (by repeat' (first | exact trivial | refine ⟨⟨_, rfl, fun _ _ _ _ h => h⟩, ?_⟩))
    refine St.to [(7, .id 7)] [] rfl rfl ?_ ?_ <;> (repeat' (first | exact tA | refine t1 ?_ | exact tB | refine t2 ?_ ?_ | refine t3 ?_ | refine t4 ?_ ?_ | refine .ofEq ?_ | refine OB.To.cut rfl rfl ?_ ?_ ?_ ?_ | refine OB.To.box rfl rfl ?_ | refine ⟨⟨_, rfl, ?_⟩, ?_⟩ | refine ⟨?_, ?_⟩ | fail))
    all_goals first | omega | simp
theorem clonePo_T (l : List Po) (hl : l.length * 40 ≤ 140737488355328) : FunO Try.prog 48 [.fv (slOf encPo l)] [] (.osl 7) [(7, .row 54 5 l.length ((l.flatMap encPo).map .fv))] := by
  refine FunO.bodyL tbl_ok Try.func48 rfl (by kernel_rfl) rfl rfl rfl ?_
  rcases Nat.eq_zero_or_pos l.length with h0 | h0
  · obtain rfl := List.eq_nil_of_length_eq_zero h0
    repeat' (first
      | refine X.loc ?_
      | refine nx ?_
      | (refine WP.condBit rfl ?_ ?_)
      | (refine WP.cond rfl ?_ ?_ <;> intro hcond)
      | refine X.gst ?_ | refine X.gld ?_ | refine X.new ?_ | refine X.app ?_ | refine X.appS ?_ | refine X.stoW ?_ | refine X.stoB ?_ | refine X.stoR ?_ | refine X.gand ?_ | refine X.gor ?_
      | refine nd ?_
      | ((with_reducible apply drwK.mk); (· kernel_rfl); (· exact aF))
      | fail)
    · skip
      refine .ofL (s' := ⟨[(2, .osl 7)], [(7, .row 54 5 0 [])]⟩) (by first | exact .inl rfl | exact .inr rfl) ?_ rfl rfl (by repeat' (first | exact trivial | refine ⟨⟨_, rfl, fun _ _ _ _ h => h⟩, ?_⟩))
      refine St.to [(7, .nil)] [] rfl rfl ?_ ?_ <;> (repeat' (first | exact tA | refine t1 ?_ | exact tB | refine t2 ?_ ?_ | refine t3 ?_ | refine t4 ?_ ?_ | refine .ofEq ?_ | refine OB.To.cut rfl rfl ?_ ?_ ?_ ?_ | refine OB.To.box rfl rfl ?_ | refine ⟨⟨_, rfl, ?_⟩, ?_⟩ | refine ⟨?_, ?_⟩ | fail))
    · skip
      refine .ofL (s' := ⟨[(2, .osl 7)], [(7, .row 54 5 0 [])]⟩) (by first | exact .inl rfl | exact .inr rfl) ?_ rfl rfl (by repeat' (first | exact trivial | refine ⟨⟨_, rfl, fun _ _ _ _ h => h⟩, ?_⟩))
      refine St.to [(7, .id 7)] [] rfl rfl ?_ ?_ <;> (repeat' (first | exact tA | refine t1 ?_ | exact tB | refine t2 ?_ ?_ | refine t3 ?_ | refine t4 ?_ ?_ | refine .ofEq ?_ | refine OB.To.cut rfl rfl ?_ ?_ ?_ ?_ | refine OB.To.box rfl rfl ?_ | refine ⟨⟨_, rfl, ?_⟩, ?_⟩ | refine ⟨?_, ?_⟩ | fail))
      rfl
  · skip
    repeat' (first
      | refine X.loc ?_
      | refine nx ?_
      | (refine WP.condBit rfl ?_ ?_)
      | (refine WP.cond rfl ?_ ?_ <;> intro hcond)
      | refine X.gst ?_ | refine X.gld ?_ | refine X.new ?_ | refine X.app ?_ | refine X.appS ?_ | refine X.stoW ?_ | refine X.stoB ?_ | refine X.stoR ?_ | refine X.gand ?_ | refine X.gor ?_
      | refine nd ?_
      | ((with_reducible apply drwK.mk); (· kernel_rfl); (· exact aF))
      | fail)
    refine .ofL (s' := ⟨[(2, .osl 7)], [(7, .row 54 5 l.length ((l.flatMap encPo).map .fv))]⟩) (by first | exact .inl rfl | exact .inr rfl) ?_ rfl rfl (by repeat' (first | exact trivial | refine ⟨⟨_, rfl, fun _ _ _ _ h => h⟩, ?_⟩))
    refine St.to [(7, .id 7)] [] rfl rfl ?_ ?_ <;> (repeat' (first | exact tA | refine t1 ?_ | exact tB | refine t2 ?_ ?_ | refine t3 ?_ | refine t4 ?_ ?_ | refine .ofEq ?_ | refine OB.To.cut rfl rfl ?_ ?_ ?_ ?_ | refine OB.To.box rfl rfl ?_ | refine ⟨⟨_, rfl, ?_⟩, ?_⟩ | refine ⟨?_, ?_⟩ | fail))
    all_goals first | omega | simp
theorem cloneAc_T (l : List Ac) (hl : l.length * 72 ≤ 140737488355328) : FunO Try.prog 72 [.fv (slOf encAc l)] [] (.osl 7) [(7, .row 56 9 l.length ((l.flatMap encAc).map .fv))] := by
  refine FunO.bodyL tbl_ok Try.func72 rfl (by kernel_rfl) rfl rfl rfl ?_
  rcases Nat.eq_zero_or_pos l.length with h0 | h0
  · obtain rfl := List.eq_nil_of_length_eq_zero h0
    repeat' (first
      | refine X.loc ?_
      | refine nx ?_
      | (refine WP.condBit rfl ?_ ?_)
      | (refine WP.cond rfl ?_ ?_ <;> intro hcond)
      | refine X.gst ?_ | refine X.gld ?_ | refine X.new ?_ | refine X.app ?_ | refine X.appS ?_ | refine X.stoW ?_ | refine X.stoB ?_ | refine X.stoR ?_ | refine X.gand ?_ | refine X.gor ?_
      | refine nd ?_
      | ((with_reducible apply drwK.mk); (· kernel_rfl); (· exact aF))
      | fail)
    · skip
      refine .ofL (s' := ⟨[(2, .osl 7)], [(7, .row 56 9 0 [])]⟩) (by first | exact .inl rfl | exact .inr rfl) ?_ rfl rfl (by repeat' (first | exact trivial | refine ⟨⟨_, rfl, fun _ _ _ _ h => h⟩, ?_⟩))
      refine St.to [(7, .nil)] [] rfl rfl ?_ ?_ <;> (repeat' (first | exact tA | refine t1 ?_ | exact tB | refine t2 ?_ ?_ | refine t3 ?_ | refine t4 ?_ ?_ | refine .ofEq ?_ | refine OB.To.cut rfl rfl ?_ ?_ ?_ ?_ | refine OB.To.box rfl rfl ?_ | refine ⟨⟨_, rfl, ?_⟩, ?_⟩ | refine ⟨?_, ?_⟩ | fail))
    · skip
      refine .ofL (s' := ⟨[(2, .osl 7)], [(7, .row 56 9 0 [])]⟩) (by first | exact .inl rfl | exact .inr rfl) ?_ rfl rfl (by repeat' (first | exact trivial | refine ⟨⟨_, rfl, fun _ _ _ _ h => h⟩, ?_⟩))
      refine St.to [(7, .id 7)] [] rfl rfl ?_ ?_ <;> (repeat' (first | exact tA | refine t1 ?_ | exact tB | refine t2 ?_ ?_ | refine t3 ?_ | refine t4 ?_ ?_ | refine .ofEq ?_ | refine OB.To.cut rfl rfl ?_ ?_ ?_ ?_ | refine OB.To.box rfl rfl ?_ | refine ⟨⟨_, rfl, ?_⟩, ?_⟩ | refine ⟨?_, ?_⟩ | fail))
      rfl
  · skip
    repeat' (first
      | refine X.loc ?_
      | refine nx ?_
      | (refine WP.condBit rfl ?_ ?_)
      | (refine WP.cond rfl ?_ ?_ <;> intro hcond)
      | refine X.gst ?_ | refine X.gld ?_ | refine X.new ?_ | refine X.app ?_ | refine X.appS ?_ | refine X.stoW ?_ | refine X.stoB ?_ | refine X.stoR ?_ | refine X.gand ?_ | refine X.gor ?_
      | refine nd ?_
      | ((with_reducible apply drwK.mk); (· kernel_rfl); (· exact aF))
      | fail)
    refine .ofL (s' := ⟨[(2, .osl 7)], [(7, .row 56 9 l.length ((l.flatMap encAc).map .fv))]⟩) (by first | exact .inl rfl | exact .inr rfl) ?_ rfl rfl (by repeat' (first | exact trivial | refine ⟨⟨_, rfl, fun _ _ _ _ h => h⟩, ?_⟩))
    refine St.to [(7, .id 7)] [] rfl rfl ?_ ?_ <;> (repeat' (first | exact tA | refine t1 ?_ | exact tB | refine t2 ?_ ?_ | refine t3 ?_ | refine t4 ?_ ?_ | refine .ofEq ?_ | refine OB.To.cut rfl rfl ?_ ?_ ?_ ?_ | refine OB.To.box rfl rfl ?_ | refine ⟨⟨_, rfl, ?_⟩, ?_⟩ | refine ⟨?_, ?_⟩ | fail))
    all_goals first | omega | simp
/-- What is wanted finds room. -/
def Cf.Fit (c : Cf) : Prop := c.ss.length * 24 ≤ 140737488355328 ∧ c.ps.length * 40 ≤ 140737488355328 ∧ c.acs.length * 72 ≤ 140737488355328
theorem Cf.Fit.small {c : Cf} (h : c.Fit) : c.Small := by
  obtain ⟨h1, h2, h3⟩ := h
  exact ⟨by omega, by omega, by omega⟩
theorem copy_T (c : Cf) (hl : c.Fit) : FunO Try.prog 28 [.agg ((encCf c).map .fv)] [] (.agg [.osl 7, .osl 8, .osl 9]) [(7, .row 52 3 c.ss.length ((c.ss.flatMap encSw).map .fv)), (8, .row 54 5 c.ps.length ((c.ps.flatMap encPo).map .fv)), (9, .row 56 9 c.acs.length ((c.acs.flatMap encAc).map .fv))] := by
  have hl1 := hl.1
  have hl2 := hl.2.1
  have hl3 := hl.2.2
  refine FunO.bodyL tbl_ok Try.func28 rfl (by kernel_rfl) rfl rfl rfl ?_
  repeat' (first
    | refine X.loc ?_
    | refine nx ?_
    | (refine WP.condBit rfl ?_ ?_)
    | (refine WP.cond rfl ?_ ?_ <;> intro hcond)
    | refine X.gst ?_ | refine X.gld ?_ | refine X.new ?_ | refine X.app ?_ | refine X.appS ?_ | refine X.stoW ?_ | refine X.stoB ?_ | refine X.stoR ?_ | refine X.gand ?_ | refine X.gor ?_
    | (apply X.cal false; (· exact aR); (· exact cloneSw_T c.ss (by omega)); (· exact aC))
    | (apply X.cal false; (· exact aR); (· exact clonePo_T c.ps (by omega)); (· exact aC))
    | (apply X.cal false; (· exact aR); (· exact cloneAc_T c.acs (by omega)); (· exact aC))
    | refine nd ?_
    | ((with_reducible apply drwK.mk); (· kernel_rfl); (· exact aF))
    | fail)
  refine .ofL (s' := ⟨[(2, .optr 2 0)], [(2, .box 50 [.osl 7, .osl 8, .osl 9]), (7, .row 52 3 c.ss.length ((c.ss.flatMap encSw).map .fv)), (8, .row 54 5 c.ps.length ((c.ps.flatMap encPo).map .fv)), (9, .row 56 9 c.acs.length ((c.acs.flatMap encAc).map .fv))]⟩) (by first | exact .inl rfl | exact .inr rfl) ?_ rfl rfl (by repeat' (first | exact trivial | refine ⟨⟨_, rfl, fun _ _ _ _ h => h⟩, ?_⟩))
  refine St.to [(7, .id 5), (8, .id 8), (9, .id 11)] [] rfl rfl ?_ ?_ <;> (repeat' (first | exact tA | refine t1 ?_ | exact tB | refine t2 ?_ ?_ | refine t3 ?_ | refine t4 ?_ ?_ | refine .ofEq ?_ | refine OB.To.cut rfl rfl ?_ ?_ ?_ ?_ | refine OB.To.box rfl rfl ?_ | refine ⟨⟨_, rfl, ?_⟩, ?_⟩ | refine ⟨?_, ?_⟩ | fail))

/-- One element cut out of a row: the cells. -/
theorem del_cells {α : Type} {enc : α → List FV} {s : Nat} (hs : ∀ x, (enc x).length = s) (l : List α) (i : Nat) (hi : i < l.length) :
    ∃ cs1 : List AV, setC ((l.flatMap enc).map AV.fv) ((0 + i) * s) ((((l.flatMap enc).map AV.fv).drop ((i + 1) * s)).take ((l.length - (i + 1)) * s)) = some cs1 ∧ cs1.length = l.length * s ∧ cs1.take ((i + (l.length - (i + 1))) * s) = (((l.eraseIdx i).flatMap enc).map AV.fv) := by
  have hlen : ((l.flatMap enc).map AV.fv).length = l.length * s := by rw [List.length_map, flatMap_len hs]
  have e1 : (l.flatMap enc).drop ((i + 1) * s) = (l.drop (i + 1)).flatMap enc := by
    have h1 : (l.take (i + 1) ++ l.drop (i + 1)).flatMap enc = l.flatMap enc := by rw [List.take_append_drop]
    rw [← h1, List.flatMap_append, List.drop_append_of_le_length (by rw [flatMap_len hs, List.length_take]; rw [Nat.min_eq_left (by omega)]; exact Nat.le_refl _), List.drop_of_length_le (by rw [flatMap_len hs, List.length_take, Nat.min_eq_left (by omega)]; exact Nat.le_refl _), List.nil_append]
  have e2 : (l.flatMap enc).take (i * s) = (l.take i).flatMap enc := by
    have h1 : (l.take i ++ l.drop i).flatMap enc = l.flatMap enc := by rw [List.take_append_drop]
    have h2 : ((l.take i).flatMap enc).length = i * s := by rw [flatMap_len hs, List.length_take, Nat.min_eq_left (by omega)]
    rw [← h1, List.flatMap_append, ← h2, List.take_left']
    rfl
  have e3 : ((l.drop (i + 1)).flatMap enc).length = (l.length - (i + 1)) * s := by rw [flatMap_len hs, List.length_drop]
  have e4 : (((l.flatMap enc).map AV.fv).drop ((i + 1) * s)).take ((l.length - (i + 1)) * s) = ((l.drop (i + 1)).flatMap enc).map AV.fv := by
    rw [← List.map_drop, e1, List.take_of_length_le (by rw [List.length_map, e3]; exact Nat.le_refl _)]
  have hm : (i + (l.length - (i + 1))) * s = i * s + (l.length - (i + 1)) * s := Nat.add_mul _ _ _
  have hle : (i + (l.length - (i + 1))) * s ≤ l.length * s := Nat.mul_le_mul_right s (by omega)
  rw [e4, Nat.zero_add]
  have h6 := setC_mk (cs := (l.flatMap enc).map AV.fv) (off := i * s) (us := ((l.drop (i + 1)).flatMap enc).map AV.fv) (by rw [List.length_map, e3, hlen]; omega)
  refine ⟨_, h6, ?_, ?_⟩
  · rw [List.length_append, List.length_append, List.length_take, List.length_drop, hlen, List.length_map, e3]
    omega
  · rw [← List.map_take, e2, hm, List.take_append_of_le_length (by rw [List.length_append, List.length_map, List.length_map, e3, flatMap_len hs, List.length_take, Nat.min_eq_left (by omega)]; exact Nat.le_refl _), List.take_of_length_le (by rw [List.length_append, List.length_map, List.length_map, e3, flatMap_len hs, List.length_take, Nat.min_eq_left (by omega)]; exact Nat.le_refl _), ← List.map_append, ← List.flatMap_append, List.eraseIdx_eq_take_drop_succ]
theorem clr_cells {cs1 us cs2 : List AV} {n : Nat} (h : setC cs1 n us = some cs2) : cs2.take n = cs1.take n := by
  obtain ⟨h1, rfl⟩ := setC_eq h
  rw [List.append_assoc, List.take_append_of_le_length (by rw [List.length_take]; omega), List.take_take, Nat.min_self]

def zi : AV := .fv (.int .i64 0)
def zb : AV := .fv (.bool false)
theorem deletePo_T (l : List Po) (i : Nat) (j : Int) (hj : j = ((i + 1 : Nat) : Int)) (hi : i < l.length) (hl : l.length * 40 ≤ 140737488355328) : FunO Try.prog 47 [.osl 1000, .fv (.int .i64 (i : Int)), .fv (.int .i64 j)] [(1000, .row 54 5 l.length ((l.flatMap encPo).map .fv))] (.osl 7) [(7, .row 54 5 (l.length - 1) (((l.eraseIdx i).flatMap encPo).map .fv))] := by
  subst hj
  obtain ⟨cs1, h1, h2, h3⟩ := del_cells encPo_len l i hi
  have hclr : ∀ zs : List AV, zs.length = 5 → ∃ cs2, setC cs1 ((0 + (i + (l.length - (i + 1)))) * 5) ((List.replicate (l.length - (i + (l.length - (i + 1)))) zs).flatten) = some cs2 ∧ cs2.take ((i + (l.length - (i + 1))) * 5) = (((l.eraseIdx i).flatMap encPo).map AV.fv) := fun zs hz => by
    have h6 := setC_mk (cs := cs1) (off := (0 + (i + (l.length - (i + 1)))) * 5) (us := (List.replicate (l.length - (i + (l.length - (i + 1)))) zs).flatten) (by
      rw [h2, List.length_flatten, List.map_replicate, List.sum_replicate_nat, hz]
      omega)
    refine ⟨_, h6, ?_⟩
    have := clr_cells h6
    rw [Nat.zero_add] at this
    rw [← h3, ← this, Nat.zero_add]
  obtain ⟨cs2, h4, h5⟩ := hclr [zi, zi, zi, zi, zi] rfl
  generalize hcs : (l.flatMap encPo).map AV.fv = cs at h1
  have hones : onesB cs = true := by subst hcs; exact onesB_map _
  refine FunO.bodyL tbl_ok Try.func47 rfl (by kernel_rfl) rfl rfl rfl ?_
  repeat' (first
    | refine X.loc ?_
    | (refine X.sl3 ?_)
    | (apply X.appB; (· exact aR); (· exact hones); (· omega); (· exact h1); (· exact aE))
    | (apply X.clr; (· exact aR); (· exact h4); (· exact aE))
    | refine nx ?_
    | refine X.cdT ?_
    | refine X.cdF ?_
    | (refine WP.condBit rfl ?_ ?_)
    | (refine WP.cond rfl ?_ ?_ <;> intro hcond)
    | refine X.gst ?_ | refine X.gld ?_ | refine X.new ?_ | refine X.app ?_ | refine X.appS ?_ | refine X.stoW ?_ | refine X.stoB ?_ | refine X.stoR ?_ | refine X.gand ?_ | refine X.gor ?_
    | refine nd ?_
    | ((with_reducible apply drwK.mk); (· kernel_rfl); (· exact aF))
    | fail)
  refine .ofL (s' := ⟨[(6, .osl 7)], [(7, .row 54 5 (l.length - 1) (((l.eraseIdx i).flatMap encPo).map .fv))]⟩) (.inl rfl) ?_ rfl rfl ⟨⟨_, rfl, fun _ _ _ _ h => h⟩, trivial⟩
  refine St.to [(7, .cut 1000 (i + (l.length - (i + 1))))] [] rfl rfl ⟨⟨_, rfl, .cut rfl⟩, trivial⟩ ⟨?_, trivial⟩
  exact .cut rfl rfl (by omega) (by omega) h5 (.maps rfl)
theorem deleteAc_T (l : List Ac) (i : Nat) (j : Int) (hj : j = ((i + 1 : Nat) : Int)) (hi : i < l.length) (hl : l.length * 72 ≤ 140737488355328) : FunO Try.prog 66 [.osl 1000, .fv (.int .i64 (i : Int)), .fv (.int .i64 j)] [(1000, .row 56 9 l.length ((l.flatMap encAc).map .fv))] (.osl 7) [(7, .row 56 9 (l.length - 1) (((l.eraseIdx i).flatMap encAc).map .fv))] := by
  subst hj
  obtain ⟨cs1, h1, h2, h3⟩ := del_cells encAc_len l i hi
  have hclr : ∀ zs : List AV, zs.length = 9 → ∃ cs2, setC cs1 ((0 + (i + (l.length - (i + 1)))) * 9) ((List.replicate (l.length - (i + (l.length - (i + 1)))) zs).flatten) = some cs2 ∧ cs2.take ((i + (l.length - (i + 1))) * 9) = (((l.eraseIdx i).flatMap encAc).map AV.fv) := fun zs hz => by
    have h6 := setC_mk (cs := cs1) (off := (0 + (i + (l.length - (i + 1)))) * 9) (us := (List.replicate (l.length - (i + (l.length - (i + 1)))) zs).flatten) (by
      rw [h2, List.length_flatten, List.map_replicate, List.sum_replicate_nat, hz]
      omega)
    refine ⟨_, h6, ?_⟩
    have := clr_cells h6
    rw [Nat.zero_add] at this
    rw [← h3, ← this, Nat.zero_add]
  obtain ⟨cs2, h4, h5⟩ := hclr [zi, zi, zb, zi, zi, zi, zi, zi, zb] rfl
  generalize hcs : (l.flatMap encAc).map AV.fv = cs at h1
  have hones : onesB cs = true := by subst hcs; exact onesB_map _
  refine FunO.bodyL tbl_ok Try.func66 rfl (by kernel_rfl) rfl rfl rfl ?_
  repeat' (first
    | refine X.loc ?_
    | (refine X.sl3 ?_)
    | (apply X.appB; (· exact aR); (· exact hones); (· omega); (· exact h1); (· exact aE))
    | (apply X.clr; (· exact aR); (· exact h4); (· exact aE))
    | refine nx ?_
    | refine X.cdT ?_
    | refine X.cdF ?_
    | (refine WP.condBit rfl ?_ ?_)
    | (refine WP.cond rfl ?_ ?_ <;> intro hcond)
    | refine X.gst ?_ | refine X.gld ?_ | refine X.new ?_ | refine X.app ?_ | refine X.appS ?_ | refine X.stoW ?_ | refine X.stoB ?_ | refine X.stoR ?_ | refine X.gand ?_ | refine X.gor ?_
    | refine nd ?_
    | ((with_reducible apply drwK.mk); (· kernel_rfl); (· exact aF))
    | fail)
  refine .ofL (s' := ⟨[(6, .osl 7)], [(7, .row 56 9 (l.length - 1) (((l.eraseIdx i).flatMap encAc).map .fv))]⟩) (.inl rfl) ?_ rfl rfl ⟨⟨_, rfl, fun _ _ _ _ h => h⟩, trivial⟩
  refine St.to [(7, .cut 1000 (i + (l.length - (i + 1))))] [] rfl rfl ⟨⟨_, rfl, .cut rfl⟩, trivial⟩ ⟨?_, trivial⟩
  exact .cut rfl rfl (by omega) (by omega) h5 (.maps rfl)
end Go.Proofs.Ytdbbmjdeeenlhaa
