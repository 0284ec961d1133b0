/- Frames of raw numbers, and what they tell first. -/
import Derived.Test.YtdbbmjdeeenlhaaPack30
import Derived.Test.YtdbbmjdeeenlhaaPack29
set_option linter.unusedSimpArgs false
set_option linter.unusedVariables false
namespace Go.Proofs.Ytdbbmjdeeenlhaa
open Go.RowKit
set_option maxRecDepth 100000

theorem LEff.callNG {P : Program} {T : Tbl} {t : List (Nat × AV)} {H : Own} {d : Nat} {r : AV} {f : Operand} {args : Array Operand} {ts : Array TypeId} {fid : FuncId} {cs as0 xs : List AV} (h1 : evG t f = some (.fn fid cs)) (h2 : evGL t args.toList = some as0) (h4 : Fun P fid xs r) (h3 : AV.LeL (as0 ++ cs) xs) (h5 : r.flat = true) :
    LEff P T (fun x => (St.ev ⟨t, H⟩ x).strip) H d (.call { callee := .value f, args := args, argTypes := ts }) r [] :=
  .call (evG_ev (st := ⟨t, H⟩) h1) (by rw [evGL_ev (st := ⟨t, H⟩) h2]; exact h3) h4 h5
theorem Eff.strHE {T : Tbl} {ρ : Operand → AV} {H : Own} {d t : Nat} {x hi : Operand} {s : ByteArray} (h : Nat) {k' : IntKind} {v : Int} (h1 : ρ x = .fv (.str s)) (h2 : ρ hi = .fv (.int k' v)) (hv : v = h) (h3 : lk T.str t = some ()) (h4 : h ≤ s.size) : Eff T ρ H d (.slice t x none (some hi) none) (.fv (.str (sfx s 0 h))) [] := by
  subst hv
  exact .strH h1 h2 h3 h4
def frameQ (r : Rq) (s : ByteArray) : Fr := ⟨pick r.a 65536, pick r.b 65536, 1 + pick r.kind 3, pick r.c 65536, pick (r.a.tdiv 3) 65536, if 1 + pick r.kind 3 = 3 then pick r.b 256 else 0, if 1 + pick r.kind 3 = 3 then pick (r.c.tdiv 5) 65536 else 0, if 1 + pick r.kind 3 = 3 then sfx s 0 (min s.size 40) else ⟨#[]⟩⟩
theorem frameQ_ok (r : Rq) (s : ByteArray) : frameFault (frameQ r s) = 0 := by
  have h0 := pick_le (n := r.kind) (m := 3) (by omega)
  have h1 := pick_le (n := r.a) (m := 65536) (by omega)
  have h2 := pick_le (n := r.b) (m := 65536) (by omega)
  have h3 := pick_le (n := r.c) (m := 65536) (by omega)
  have h4 := pick_le (n := r.a.tdiv 3) (m := 65536) (by omega)
  have h5 := pick_le (n := r.b) (m := 256) (by omega)
  have h6 := pick_le (n := r.c.tdiv 5) (m := 65536) (by omega)
  have hs : (sfx s 0 (min s.size 40)).size ≤ 40 := by
    unfold sfx
    rw [ByteArray.size_extract]
    omega
  unfold frameFault frameQ
  simp only [word_not]
  by_cases hk : 1 + pick r.kind 3 = 3
  · simp only [hk, if_true]
    rw [if_neg (by omega), if_neg (by omega), if_neg (by omega), if_neg (by omega)]
  · simp only [hk, if_false]
    rw [if_neg (by omega), if_neg (by omega), if_neg (by show ¬ 40 < 0; omega), if_neg]
    rintro ⟨_, h | h | h⟩
    · exact h rfl
    · exact h rfl
    · exact h rfl
set_option maxHeartbeats 4000000 in
theorem frameQ_T (r : Rq) (s : ByteArray) (ho : r.Ok) : Fun Try.prog 38 [.agg ((encRq r).map .fv), .fv (.str s)] (.agg ((encFr (frameQ r s)).map .fv)) := by
  obtain ⟨o1, o2, o3, o4⟩ := ho
  have n1 := o1
  have n2 := o2
  have n3 := o3
  have n4 := o4
  unfold N64 at n1 n2 n3 n4
  have qa3 := quoT_bd o2 (m := 3) (by omega)
  have qc5 := quoT_bd o4 (m := 5) (by omega)
  have h0 := pick_le (n := r.kind) (m := 3) (by omega)
  have hck := picked_T r.kind 3 n1.1 n1.2 (by omega)
  have e0 : frameQ r s = ⟨pick r.a 65536, pick r.b 65536, 1 + pick r.kind 3, pick r.c 65536, pick (r.a.tdiv 3) 65536, if 1 + pick r.kind 3 = 3 then pick r.b 256 else 0, if 1 + pick r.kind 3 = 3 then pick (r.c.tdiv 5) 65536 else 0, if 1 + pick r.kind 3 = 3 then sfx s 0 (min s.size 40) else ⟨#[]⟩⟩ := rfl
  have hmin : (if (40 : Int) < (s.size : Int) then (40 : Int) else (s.size : Int)) = ((min s.size 40 : Nat) : Int) := by split <;> omega
  generalize frameQ r s = F at *
  generalize pick r.kind 3 = k at *
  refine Fun.body tbl_ok Try.func38 rfl (by kernel_rfl) rfl rfl rfl ?_
  by_cases hk : 1 + k = 3
  · rw [if_pos hk, if_pos hk, if_pos hk] at e0
    subst e0
    repeat' (first
      | (apply X.loE; (· exact aR); (· first | (refine .eff (.quoT rfl rfl ?_ ?_) <;> first | assumption | omega) | (exact .eff (.strHE (min s.size 40) rfl rfl hmin rfl (by omega))) | exact .callL rfl rfl rfl (by first | exact hck | exact (picked_T _ _ (by omega) (by omega) (by omega))) rfl | (apply LEff.callBL; (· rfl); (· rfl); (· exact hck); (· exact aB); (· rfl)) | (apply LEff.callBL; (· rfl); (· rfl); (· exact (picked_T _ _ (by omega) (by omega) (by omega))); (· exact aB); (· rfl))))
      | refine X.loc ?_
      | refine nx ?_
      | refine X.cdT ?_
      | refine X.cdF ?_
      | (refine WP.condBit rfl ?_ ?_)
      | (refine WP.cond rfl ?_ ?_ <;> intro hcond)
      | (apply X.gsE; (· exact aR); (· exact aV); (· exact aW); (· intro hc; first | (refine .eff (.quoT rfl rfl ?_ ?_) <;> first | assumption | omega) | (exact .eff (.strHE (min s.size 40) rfl rfl hmin rfl (by omega))) | exact .callG rfl rfl rfl (by first | exact hck | exact (picked_T _ _ (by omega) (by omega) (by omega))) rfl | (apply LEff.callBG; (· rfl); (· rfl); (· exact hck); (· exact aB); (· rfl)) | (apply LEff.callBG; (· rfl); (· rfl); (· exact (picked_T _ _ (by omega) (by omega) (by omega))); (· exact aB); (· rfl))); (· exact aR))
      | refine X.gst ?_ | refine X.gld ?_ | refine X.new ?_ | refine X.app ?_ | refine X.appS ?_ | refine X.stoW ?_ | refine X.stoB ?_ | refine X.stoR ?_ | refine X.gand ?_ | refine X.gor ?_
      | refine nd ?_
      | ((with_reducible apply drwK.mk); (· kernel_rfl); (· exact aF))
      | fail)
    exact .fun (.inl rfl) rfl rfl
  · rw [if_neg hk, if_neg hk, if_neg hk] at e0
    subst e0
    repeat' (first
      | (apply X.loE; (· exact aR); (· first | (refine .eff (.quoT rfl rfl ?_ ?_) <;> first | assumption | omega) | exact .callL rfl rfl rfl (by first | exact hck | exact (picked_T _ _ (by omega) (by omega) (by omega))) rfl | (apply LEff.callBL; (· rfl); (· rfl); (· exact hck); (· exact aB); (· rfl)) | (apply LEff.callBL; (· rfl); (· rfl); (· exact (picked_T _ _ (by omega) (by omega) (by omega))); (· exact aB); (· rfl))))
      | refine X.loc ?_
      | refine nx ?_
      | refine X.cdT ?_
      | refine X.cdF ?_
      | (refine WP.condBit rfl ?_ ?_)
      | (refine WP.cond rfl ?_ ?_ <;> intro hcond)
      | (apply X.gsE; (· exact aR); (· exact aV); (· exact aW); (· intro hc; first | (refine .eff (.quoT rfl rfl ?_ ?_) <;> first | assumption | omega) | exact .callG rfl rfl rfl (by first | exact hck | exact (picked_T _ _ (by omega) (by omega) (by omega))) rfl | (apply LEff.callBG; (· rfl); (· rfl); (· exact hck); (· exact aB); (· rfl)) | (apply LEff.callBG; (· rfl); (· rfl); (· exact (picked_T _ _ (by omega) (by omega) (by omega))); (· exact aB); (· rfl))); (· exact aR))
      | refine X.gst ?_ | refine X.gld ?_ | refine X.new ?_ | refine X.app ?_ | refine X.appS ?_ | refine X.stoW ?_ | refine X.stoB ?_ | refine X.stoR ?_ | refine X.gand ?_ | refine X.gor ?_
      | refine nd ?_
      | ((with_reducible apply drwK.mk); (· kernel_rfl); (· exact aF))
      | fail)
    exact .fun (.inl rfl) rfl rfl
theorem room_nil : Room [] := ⟨fun f hf => by (cases hf), by simp⟩
theorem flN_fit : flN.Fit := by unfold Fl.Fit flN; simp
theorem patch_one : patchF [] [flN] [] = [flN] := by
  unfold patchF
  rw [left_none, List.nil_append]
  exact sortedF_id (List.pairwise_singleton _ _)
set_option maxHeartbeats 4000000 in
theorem frameTells_T : Fun Try.prog 36 [] (.fv (.bool true)) := by
  have c1 := frameQ_T ⟨0, 0, 0, 0⟩ ⟨#[97]⟩ ⟨by unfold N64; decide, by unfold N64; decide, by unfold N64; decide, by unfold N64; decide⟩
  have hok := frameQ_ok ⟨0, 0, 0, 0⟩ ⟨#[97]⟩
  generalize frameQ ⟨0, 0, 0, 0⟩ ⟨#[97]⟩ = F at *
  have c2 := encodeF_T F
  have hl : (encF F).length = 16 + F.body.size := by rw [encF, if_neg (by omega), bytesF_len]
  rw [hok] at c2
  generalize encF F = B at *
  have c3 := patchF_T [] [flN] [] room_nil room_nil (fun f hf => by obtain rfl := List.mem_singleton.1 hf; exact flN_fit) (by simp)
  rw [patch_one] at c3
  refine Fun.body tbl_ok Try.func36 rfl (by kernel_rfl) rfl rfl rfl ?_
  repeat' (first
    | (apply X.loE; (· exact aR); (· first | exact .eff (.bsliceFS rfl rfl rfl rfl rfl rfl) | (apply LEff.callNG; (· rfl); (· rfl); (· exact c3); (· exact aN); (· rfl)) | exact .callL rfl rfl rfl (by first | exact c1 | exact c2) rfl | (apply LEff.callBL; (· rfl); (· rfl); (· exact c1); (· exact aB); (· rfl)) | (apply LEff.callBL; (· rfl); (· rfl); (· exact c2); (· exact aB); (· rfl))))
    | refine X.loc ?_
    | refine nx ?_
    | refine X.cdT ?_
    | refine X.cdF ?_
    | (refine WP.condBit rfl ?_ ?_)
    | (refine WP.cond rfl ?_ ?_ <;> intro hcond)
    | (apply X.gsE; (· exact aR); (· exact aV); (· exact aW); (· intro hc; first | exact .eff (.bsliceFS rfl rfl rfl rfl rfl rfl) | (apply LEff.callNG; (· rfl); (· rfl); (· exact c3); (· exact aN); (· rfl)) | exact .callG rfl rfl rfl (by first | exact c1 | exact c2) rfl | (apply LEff.callBG; (· rfl); (· rfl); (· exact c1); (· exact aB); (· rfl)) | (apply LEff.callBG; (· rfl); (· rfl); (· exact c2); (· exact aB); (· rfl))); (· exact aR))
    | refine X.gst ?_ | refine X.gld ?_ | refine X.new ?_ | refine X.app ?_ | refine X.appS ?_ | refine X.stoW ?_ | refine X.stoB ?_ | refine X.stoR ?_ | refine X.gand ?_ | refine X.gor ?_
    | refine nd ?_
    | ((with_reducible apply drwK.mk); (· kernel_rfl); (· exact aF))
    | fail)
  refine .f1 (.inl rfl) rfl ?_
  congr 1
  have : decide ((B.length : Int) > 4) = true := decide_eq_true (by omega)
  simp [this]
end Go.Proofs.Ytdbbmjdeeenlhaa

/- Flows held against each other, as laws do that have no document. -/
namespace Go.Proofs.Ytdbbmjdeeenlhaa
open Go.RowKit
set_option maxRecDepth 100000

/-- Flows of few things. -/
def FlS (x : Fl) : Prop := x.ms.length ≤ 12 ∧ x.ds.length ≤ 100
theorem FlS.fit {f : Fl} (h : FlS f) : f.Fit := by
  obtain ⟨h1, h2⟩ := h
  unfold Fl.Fit
  omega
theorem flS_of {f : Fl} (h : flFault f = 0) : FlS f := ⟨(flMay h).ms, (flMay h).ds⟩
theorem sameK1_T (x : Fl) (hf : FlS x) : Fun Try.prog 89 [.agg ((encFl x).map .fv), .agg ((encFl x).map .fv)] (.fv (.bool true)) := by
  have c1 := eqMx_T x.ms (by have := hf.1; omega)
  have c2 := eqDx_T x.ds (by have := hf.2; omega)
  refine Fun.body tbl_ok Try.func89 rfl (by kernel_rfl) rfl rfl rfl ?_
  repeat' (first
    | (apply X.loE; (· exact aR); (· first | exact .callL rfl rfl rfl (by first | exact c1 | exact c2) rfl | (apply LEff.callBL; (· rfl); (· rfl); (· exact c1); (· exact aB); (· rfl)) | (apply LEff.callBL; (· rfl); (· rfl); (· exact c2); (· exact aB); (· rfl))))
    | refine X.loc ?_
    | refine nx ?_
    | (refine WP.condBit rfl ?_ ?_)
    | (refine WP.cond rfl ?_ ?_ <;> intro hcond)
    | (apply X.gsE; (· exact aR); (· exact aV); (· exact aW); (· intro hc; first | exact .callG rfl rfl rfl (by first | exact c1 | exact c2) rfl | (apply LEff.callBG; (· rfl); (· rfl); (· exact c1); (· exact aB); (· rfl)) | (apply LEff.callBG; (· rfl); (· rfl); (· exact c2); (· exact aB); (· rfl))); (· exact aR))
    | refine X.gst ?_ | refine X.gld ?_ | refine X.new ?_ | refine X.app ?_ | refine X.appS ?_ | refine X.stoW ?_ | refine X.stoB ?_ | refine X.stoR ?_ | refine X.gand ?_ | refine X.gor ?_
    | refine nd ?_
    | ((with_reducible apply drwK.mk); (· kernel_rfl); (· exact aF))
    | fail)
  refine .f1 (.inl rfl) rfl ?_
  simp
theorem equalFl_T (l : List Fl) (hf : ∀ x ∈ l, FlS x) (hl : l.length < 9223372036854775807) : Fun Try.prog 88 [.fv (slOf encFl l), .fv (slOf encFl l), .fn 89 []] (.fv (.bool true)) := by
  refine Fun.body tbl_ok Try.func88 rfl (by kernel_rfl) rfl rfl rfl ?_
  repeat' (first
    | refine X.loc ?_
    | refine nx ?_
    | (refine WP.condBit rfl ?_ ?_)
    | (refine WP.cond rfl ?_ ?_ <;> intro hcond)
    | refine X.gst ?_ | refine X.gld ?_ | refine X.new ?_ | refine X.app ?_ | refine X.appS ?_ | refine X.stoW ?_ | refine X.stoB ?_ | refine X.stoR ?_ | refine X.gand ?_ | refine X.gor ?_
    | refine nd ?_
    | ((with_reducible apply drwK.mk); (· kernel_rfl); (· exact aF))
    | fail)
  · exfalso
    simp at hcond
  refine WP.loop (ι := Nat) (fun k => ⟨[(0, .fv (slOf encFl l)), (1, .fv (slOf encFl l)), (2, .fn 89 []), (15, .fv (slOf encFl l)), (16, .fv (.int .i64 l.length)), (17, .fv (.int .i64 k))], []⟩) (fun k => k ≤ l.length) (fun k => l.length - k) 0 (by omega) ?_ ?_
  · skip
    refine St.le_of ?_ ?_ <;> (repeat' (first | exact trivial | refine ⟨⟨_, rfl, .refl _⟩, ?_⟩ | refine ⟨⟨_, rfl, .any _⟩, ?_⟩ | refine ⟨⟨_, rfl, .of_eq ?_⟩, ?_⟩ | refine ⟨⟨_, rfl, fun _ _ _ _ h => h⟩, ?_⟩ | fail))
  rintro k hk
  try dsimp only
  by_cases hlt : k < l.length
  case neg =>
    repeat' (first
      | refine X.loc ?_
      | refine nx ?_
      | refine X.cdT ?_
      | refine X.cdF ?_
      | (refine WP.condBit rfl ?_ ?_)
      | (refine WP.cond rfl ?_ ?_ <;> intro hcond)
      | refine X.gst ?_ | refine X.gld ?_ | refine X.new ?_ | refine X.app ?_ | refine X.appS ?_ | refine X.stoW ?_ | refine X.stoB ?_ | refine X.stoR ?_ | refine X.gand ?_ | refine X.gor ?_
      | refine nd ?_
      | ((with_reducible apply drwK.mk); (· kernel_rfl); (· exact aF))
      | fail)
    exact .f1 (.inl rfl) rfl rfl
  case pos =>
    obtain ⟨x, hx⟩ : ∃ x, l[k]? = some x := ⟨_, List.getElem?_eq_getElem hlt⟩
    have c := sameK1_T x (hf x (List.mem_of_getElem? hx))
    repeat' (first
      | (apply X.loE; (· exact aR); (· first | exact .callL rfl rfl rfl (c) rfl | (apply LEff.callBL; (· rfl); (· rfl); (· exact c); (· exact aB); (· rfl))))
      | refine X.loc ?_
      | refine nx ?_
      | refine X.cdT ?_
      | refine X.cdF ?_
      | (refine WP.condBit rfl ?_ ?_)
      | (refine WP.cond rfl ?_ ?_ <;> intro hcond)
      | (apply X.gsE; (· exact aR); (· exact aV); (· exact aW); (· intro hc; first | exact .callG rfl rfl rfl (c) rfl | (apply LEff.callBG; (· rfl); (· rfl); (· exact c); (· exact aB); (· rfl))); (· exact aR))
      | refine X.gst ?_ | refine X.gld ?_ | refine X.new ?_ | refine X.app ?_ | refine X.appS ?_ | refine X.stoW ?_ | refine X.stoB ?_ | refine X.stoR ?_ | refine X.gand ?_ | refine X.gor ?_
      | refine nd ?_
      | ((with_reducible apply drwK.mk); (· kernel_rfl); (· exact aF))
      | fail)
    refine ⟨k + 1, by omega, by omega, ?_⟩
    refine St.to [] [] rfl rfl ?_ ?_ <;> (repeat' (first | exact tA | refine t1 ?_ | exact tB | refine t2 ?_ ?_ | refine t3 ?_ | refine t4 ?_ ?_ | refine .ofEq ?_ | refine OB.To.cut rfl rfl ?_ ?_ ?_ ?_ | refine OB.To.box rfl rfl ?_ | refine ⟨⟨_, rfl, ?_⟩, ?_⟩ | refine ⟨?_, ?_⟩ | fail))
theorem sameK_T (l : List Fl) (hf : ∀ x ∈ l, FlS x) (hl : l.length < 9223372036854775807) : Fun Try.prog 40 [.fv (slOf encFl l), .fv (slOf encFl l)] (.fv (.bool true)) := by
  have c := equalFl_T l hf hl
  refine Fun.body tbl_ok Try.func40 rfl (by kernel_rfl) rfl rfl rfl ?_
  repeat' (first
    | (apply X.loE; (· exact aR); (· first | exact .callL rfl rfl rfl (c) rfl | (apply LEff.callBL; (· rfl); (· rfl); (· exact c); (· exact aB); (· rfl))))
    | refine X.loc ?_
    | refine nx ?_
    | (refine WP.condBit rfl ?_ ?_)
    | (refine WP.cond rfl ?_ ?_ <;> intro hcond)
    | (apply X.gsE; (· exact aR); (· exact aV); (· exact aW); (· intro hc; first | exact .callG rfl rfl rfl (c) rfl | (apply LEff.callBG; (· rfl); (· rfl); (· exact c); (· exact aB); (· rfl))); (· exact aR))
    | refine X.gst ?_ | refine X.gld ?_ | refine X.new ?_ | refine X.app ?_ | refine X.appS ?_ | refine X.stoW ?_ | refine X.stoB ?_ | refine X.stoR ?_ | refine X.gand ?_ | refine X.gor ?_
    | refine nd ?_
    | ((with_reducible apply drwK.mk); (· kernel_rfl); (· exact aF))
    | fail)
  exact .f1 (.inl rfl) rfl rfl
theorem flowsF_T (l : List Rq) (m : Nat) (hok : ∀ r ∈ l, r.Ok) (hm : m ≤ 100) : Fun Try.prog 19 [.fv (slOf encRq l), .fv (.int .i64 (m : Int))] (.fv (slOf encFl (flowsOf l m))) := (flowsOf_T l m hok hm).froz [7] (.frz rfl rfl rfl)
theorem sortFr_T (l : List Fl) (hl : Room l) : Fun Try.prog 29 [.fv (slOf encFl l)] (.fv (slOf encFl (sortedF l))) := (sort_T l hl.fit hl.len).froz [7] (.frz rfl rfl rfl)
theorem flowsOf_room (l : List Rq) (m : Nat) (hm : m ≤ 100) : Room (flowsOf l m) ∧ ∀ x ∈ flowsOf l m, FlS x := by
  have h := flowsOf_len l m
  refine ⟨⟨fun f hf => (flS_of (flowsOf_ok l m f hf).1).fit, by omega⟩, fun f hf => flS_of (flowsOf_ok l m f hf).1⟩
theorem sortedF_room {l : List Fl} (h : Room l) : Room (sortedF l) := ⟨fun f hf => h.fit f (sortedF_mem.1 hf), by have := sortedF_len l; have := h.len; omega⟩
end Go.Proofs.Ytdbbmjdeeenlhaa

/- The walk of the law PatchesLead. -/
namespace Go.Proofs.Ytdbbmjdeeenlhaa
open Go.ChangeShapes Go.WideShapes Go.ChangeAt Go.RowKit
set_option maxRecDepth 100000

set_option maxHeartbeats 4000000 in
theorem patchesLead_T (l m : List Rq) (hl : ∀ r ∈ l, r.Ok) (hm : ∀ r ∈ m, r.Ok) : Fun Try.prog 12 [.fv (slOf encRq l), .fv (slOf encRq m)] (.fv (.bool true)) := by
  have c0 := frameTells_T
  have c1 := flowsF_T l 20 hl (by omega)
  have c2 := flowsF_T m 20 hm (by omega)
  obtain ⟨ra, _⟩ := flowsOf_room l 20 (by omega)
  obtain ⟨rb, sb⟩ := flowsOf_room m 20 (by omega)
  have la := flowsOf_len l 20
  have lb := flowsOf_len m 20
  have c3 := sortFr_T _ ra
  have c4 := sortFr_T _ rb
  have ra2 := sortedF_room ra
  have rb2 := sortedF_room rb
  have ha := sortedF_strict (flowsOf l 20)
  have hb := sortedF_strict (flowsOf m 20)
  have hla := sortedF_len (flowsOf l 20)
  have hlb := sortedF_len (flowsOf m 20)
  have sb2 : ∀ x ∈ sortedF (flowsOf m 20), FlS x := fun x hx => sb x (sortedF_mem.1 hx)
  generalize flowsOf l 20 = L at *
  generalize flowsOf m 20 = M at *
  generalize sortedF L = a at *
  generalize sortedF M = b at *
  have c5 := diff_T a b ra2 rb2
  have c6 := diff_T b b rb2 rb2
  rw [left_none] at c6
  have rg := leftF_room (b := b) ra2
  have rc := leftF_room (b := a) rb2
  have hpl := patch_lead ha hb
  have hll := left_len ha hb
  have hc1 : (leftF b a).length ≤ b.length := by
    have h1 := List.length_filter_le (fun x => !hasF a x) (sortedF b)
    have h2 := sortedF_len b
    unfold leftF
    omega
  have hc2 : (leftF a b).length ≤ a.length := by
    have h1 := List.length_filter_le (fun x => !hasF b x) (sortedF a)
    have h2 := sortedF_len a
    unfold leftF
    omega
  have c7 := patchF_T a (leftF b a) (leftF a b) ra2 rg rc.fit (by omega)
  rw [hpl] at c7
  generalize leftF b a = come at *
  generalize leftF a b = gone at *
  have c8 := sameK_T b sb2 (by omega)
  have c9 := sortFr_T b rb2
  rw [sortedF_id hb] at c9
  refine Fun.body tbl_ok Try.func12 rfl (by kernel_rfl) rfl rfl rfl ?_
  repeat' (first
    | (apply X.loE; (· exact aR); (· first | exact .callL rfl rfl rfl (by first | exact c0 | exact c1 | exact c2 | exact c3 | exact c4 | exact c5 | exact c6 | exact c7 | exact c8 | exact c9) rfl | (apply LEff.callBL; (· rfl); (· rfl); (· exact c0); (· exact aB); (· rfl)) | (apply LEff.callBL; (· rfl); (· rfl); (· exact c1); (· exact aB); (· rfl)) | (apply LEff.callBL; (· rfl); (· rfl); (· exact c2); (· exact aB); (· rfl)) | (apply LEff.callBL; (· rfl); (· rfl); (· exact c3); (· exact aB); (· rfl)) | (apply LEff.callBL; (· rfl); (· rfl); (· exact c4); (· exact aB); (· rfl)) | (apply LEff.callBL; (· rfl); (· rfl); (· exact c5); (· exact aB); (· rfl)) | (apply LEff.callBL; (· rfl); (· rfl); (· exact c6); (· exact aB); (· rfl)) | (apply LEff.callBL; (· rfl); (· rfl); (· exact c7); (· exact aB); (· rfl)) | (apply LEff.callBL; (· rfl); (· rfl); (· exact c8); (· exact aB); (· rfl)) | (apply LEff.callBL; (· rfl); (· rfl); (· exact c9); (· exact aB); (· rfl))))
    | refine X.loc ?_
    | refine nx ?_
    | refine X.cdT ?_
    | refine X.cdF ?_
    | (refine WP.condBit rfl ?_ ?_)
    | (refine WP.cond rfl ?_ ?_ <;> intro hcond)
    | (apply X.gsE; (· exact aR); (· exact aV); (· exact aW); (· intro hc; first | exact .callG rfl rfl rfl (by first | exact c0 | exact c1 | exact c2 | exact c3 | exact c4 | exact c5 | exact c6 | exact c7 | exact c8 | exact c9) rfl | (apply LEff.callBG; (· rfl); (· rfl); (· exact c0); (· exact aB); (· rfl)) | (apply LEff.callBG; (· rfl); (· rfl); (· exact c1); (· exact aB); (· rfl)) | (apply LEff.callBG; (· rfl); (· rfl); (· exact c2); (· exact aB); (· rfl)) | (apply LEff.callBG; (· rfl); (· rfl); (· exact c3); (· exact aB); (· rfl)) | (apply LEff.callBG; (· rfl); (· rfl); (· exact c4); (· exact aB); (· rfl)) | (apply LEff.callBG; (· rfl); (· rfl); (· exact c5); (· exact aB); (· rfl)) | (apply LEff.callBG; (· rfl); (· rfl); (· exact c6); (· exact aB); (· rfl)) | (apply LEff.callBG; (· rfl); (· rfl); (· exact c7); (· exact aB); (· rfl)) | (apply LEff.callBG; (· rfl); (· rfl); (· exact c8); (· exact aB); (· rfl)) | (apply LEff.callBG; (· rfl); (· rfl); (· exact c9); (· exact aB); (· rfl))); (· exact aR))
    | refine X.gst ?_ | refine X.gld ?_ | refine X.new ?_ | refine X.app ?_ | refine X.appS ?_ | refine X.stoW ?_ | refine X.stoB ?_ | refine X.stoR ?_ | refine X.gand ?_ | refine X.gor ?_
    | refine nd ?_
    | ((with_reducible apply drwK.mk); (· kernel_rfl); (· exact aF))
    | fail)
  refine .f1 (.inl rfl) rfl ?_
  congr 1
  have : ((a.length : Int) - (gone.length : Int) + (come.length : Int) == (b.length : Int)) = true := by
    rw [beq_iff_eq]
    omega
  simp [this]
theorem patchesLead_open {H : Type} {enc : TypeId × Value → H} (W : World) (base : Nat) {v0 v1 : Value} {d0 d1 : DataW H} {p0 p1 : List MemPlace} (hv0 : Value.okWide Try.prog W .any base 40 v0)
    (h0 : DataW.Trod enc Try.prog W 0 (fun _ => true) true 40 v0 d0 p0) (hs0 : SizedCl Try.prog 40 d0) (hv1 : Value.okWide Try.prog W .any base 40 v1)
    (h1 : DataW.Trod enc Try.prog W 0 (fun _ => true) true 40 v1 d1 p1) (hs1 : SizedCl Try.prog 40 d1) : Calls Try.prog 12 #[v0, v1] W fun e W' => e = .returned (.bool true) ∧ Below W.heap.size W W' := by
  obtain ⟨l, hl, _, hr⟩ := open_raws hv0 h0 hs0
  obtain ⟨m, hm, _, hr1⟩ := open_raws hv1 h1 hs1
  exact (patchesLead_T l m hl hm).yes ⟨hr, hr1, trivial⟩
end Go.Proofs.Ytdbbmjdeeenlhaa
