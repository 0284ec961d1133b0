/- Frames of raw numbers, and what they tell first. -/
import Derived.Test.YtdbbmjdeeenlhaaPack30
import Derived.Test.YtdbbmjdeeenlhaaPack29
set_option linter.unusedSimpArgs false
set_option linter.unusedVariables false
namespace Go.Proofs.Ytdbbmjdeeenlhaa
open Go.RowKit
set_option maxRecDepth 100000

theorem LEff.callNG {P : Program} {T : Tbl} {t : List (Nat × AV)} {H : Own} {d : Nat} {r : AV} {f : Operand} {args : Array Operand} {ts : Array TypeId} {fid : FuncId} {cs as0 xs : List AV} (h1 : evG t f = some (.fn fid cs)) (h2 : evGL t args.toList = some as0) (h4 : Fun P fid xs r) (h3 : AV.LeL (as0 ++ cs) xs) (h5 : r.flat = true) :
    LEff P T (fun x => (St.ev ⟨t, H⟩ x).strip) H d (.call { callee := .value f, args := args, argTypes := ts }) r [] :=
  .call (evG_ev (st := ⟨t, H⟩) h1) (by rw [evGL_ev (st := ⟨t, H⟩) h2]; exact h3) h4 h5
theorem Eff.strHE {T : Tbl} {ρ : Operand → AV} {H : Own} {d t : Nat} {x hi : Operand} {s : ByteArray} (h : Nat) {k' : IntKind} {v : Int} (h1 : ρ x = .fv (.str s)) (h2 : ρ hi = .fv (.int k' v)) (hv : v = h) (h3 : lk T.str t = some ()) (h4 : h ≤ s.size) : Eff T ρ H d (.slice t x none (some hi) none) (.fv (.str (sfx s 0 h))) [] := by
  subst hv
  exact .strH h1 h2 h3 h4
def frameQ (r : Rq) (s : ByteArray) : Fr := ⟨pick r.a 65536, pick r.b 65536, 1 + pick r.kind 3, pick r.c 65536, pick (r.a.tdiv 3) 65536, if 1 + pick r.kind 3 = 3 then pick r.b 256 else 0, if 1 + pick r.kind 3 = 3 then pick (r.c.tdiv 5) 65536 else 0, if 1 + pick r.kind 3 = 3 then sfx s 0 (min s.size 40) else ⟨#[]⟩⟩
theorem frameQ_ok (r : Rq) (s : ByteArray) : frameFault (frameQ r s) = 0 := by
  have h0 := pick_le (n := r.kind) (m := 3) (by omega)
  have h1 := pick_le (n := r.a) (m := 65536) (by omega)
  have h2 := pick_le (n := r.b) (m := 65536) (by omega)
  have h3 := pick_le (n := r.c) (m := 65536) (by omega)
  have h4 := pick_le (n := r.a.tdiv 3) (m := 65536) (by omega)
  have h5 := pick_le (n := r.b) (m := 256) (by omega)
  have h6 := pick_le (n := r.c.tdiv 5) (m := 65536) (by omega)
  have hs : (sfx s 0 (min s.size 40)).size ≤ 40 := by
    unfold sfx
    rw [ByteArray.size_extract]
    omega
  unfold frameFault frameQ
  simp only [word_not]
  by_cases hk : 1 + pick r.kind 3 = 3
  · simp only [hk, if_true]
    rw [if_neg (by omega), if_neg (by omega), if_neg (by omega), if_neg (by omega)]
  · simp only [hk, if_false]
    rw [if_neg (by omega), if_neg (by omega), if_neg (by show ¬ 40 < 0; omega), if_neg]
    rintro ⟨_, h | h | h⟩
    · exact h rfl
    · exact h rfl
    · exact h rfl
set_option maxHeartbeats 4000000 in
theorem frameQ_T (r : Rq) (s : ByteArray) (ho : r.Ok) : Fun Try.prog 38 [.agg ((encRq r).map .fv), .fv (.str s)] (.agg ((encFr (frameQ r s)).map .fv)) := by
  obtain ⟨o1, o2, o3, o4⟩ := ho
  have n1 := o1
  have n2 := o2
  have n3 := o3
  have n4 := o4
  unfold N64 at n1 n2 n3 n4
  have qa3 := quoT_bd o2 (m := 3) (by omega)
  have qc5 := quoT_bd o4 (m := 5) (by omega)
  have h0 := pick_le (n := r.kind) (m := 3) (by omega)
  have hck := picked_T r.kind 3 n1.1 n1.2 (by omega)
  have e0 : frameQ r s = ⟨pick r.a 65536, pick r.b 65536, 1 + pick r.kind 3, pick r.c 65536, pick (r.a.tdiv 3) 65536, if 1 + pick r.kind 3 = 3 then pick r.b 256 else 0, if 1 + pick r.kind 3 = 3 then pick (r.c.tdiv 5) 65536 else 0, if 1 + pick r.kind 3 = 3 then sfx s 0 (min s.size 40) else ⟨#[]⟩⟩ := rfl
  have hmin : (if (40 : Int) < (s.size : Int) then (40 : Int) else (s.size : Int)) = ((min s.size 40 : Nat) : Int) := by split <;> omega
  generalize frameQ r s = F at *
  generalize pick r.kind 3 = k at *
  refine Fun.body tbl_ok Try.func38 rfl (by kernel_rfl) rfl rfl rfl ?_
  by_cases hk : 1 + k = 3
  · rw [if_pos hk, if_pos hk, if_pos hk] at e0
    subst e0
    repeat' (first
      | (apply X.loE; (· exact aR); (· first | (refine .eff (.quoT rfl rfl ?_ ?_) <;> first | assumption | omega) | (exact .eff (.strHE (min s.size 40) rfl rfl hmin rfl (by omega))) | exact .callL rfl rfl rfl (by first | exact hck | exact (picked_T _ _ (by omega) (by omega) (by omega))) rfl | (apply LEff.callBL; (· rfl); (· rfl); (· exact hck); (· exact aB); (· rfl)) | (apply LEff.callBL; (· rfl); (· rfl); (· exact (picked_T _ _ (by omega) (by omega) (by omega))); (· exact aB); (· rfl))))
      | refine X.loc ?_
      | refine nx ?_
      | refine X.cdT ?_
      | refine X.cdF ?_
      | (refine WP.condBit rfl ?_ ?_)
      | (refine WP.cond rfl ?_ ?_ <;> intro hcond)
      | (apply X.gsE; (· exact aR); (· exact aV); (· exact aW); (· intro hc; first | (refine .eff (.quoT rfl rfl ?_ ?_) <;> first | assumption | omega) | (exact .eff (.strHE (min s.size 40) rfl rfl hmin rfl (by omega))) | exact .callG rfl rfl rfl (by first | exact hck | exact (picked_T _ _ (by omega) (by omega) (by omega))) rfl | (apply LEff.callBG; (· rfl); (· rfl); (· exact hck); (· exact aB); (· rfl)) | (apply LEff.callBG; (· rfl); (· rfl); (· exact (picked_T _ _ (by omega) (by omega) (by omega))); (· exact aB); (· rfl))); (· exact aR))
      | refine X.gst ?_ | refine X.gld ?_ | refine X.new ?_ | refine X.app ?_ | refine X.appS ?_ | refine X.stoW ?_ | refine X.stoB ?_ | refine X.stoR ?_ | refine X.gand ?_ | refine X.gor ?_
      | refine nd ?_
      | ((with_reducible apply drwK.mk); (· kernel_rfl); (· exact aF))
      | fail)
    exact .fun (.inl rfl) rfl rfl
  · rw [if_neg hk, if_neg hk, if_neg hk] at e0
    subst e0
    repeat' (first
      | (apply X.loE; (· exact aR); (· first | (refine .eff (.quoT rfl rfl ?_ ?_) <;> first | assumption | omega) | exact .callL rfl rfl rfl (by first | exact hck | exact (picked_T _ _ (by omega) (by omega) (by omega))) rfl | (apply LEff.callBL; (· rfl); (· rfl); (· exact hck); (· exact aB); (· rfl)) | (apply LEff.callBL; (· rfl); (· rfl); (· exact (picked_T _ _ (by omega) (by omega) (by omega))); (· exact aB); (· rfl))))
      | refine X.loc ?_
      | refine nx ?_
      | refine X.cdT ?_
      | refine X.cdF ?_
      | (refine WP.condBit rfl ?_ ?_)
      | (refine WP.cond rfl ?_ ?_ <;> intro hcond)
      | (apply X.gsE; (· exact aR); (· exact aV); (· exact aW); (· intro hc; first | (refine .eff (.quoT rfl rfl ?_ ?_) <;> first | assumption | omega) | exact .callG rfl rfl rfl (by first | exact hck | exact (picked_T _ _ (by omega) (by omega) (by omega))) rfl | (apply LEff.callBG; (· rfl); (· rfl); (· exact hck); (· exact aB); (· rfl)) | (apply LEff.callBG; (· rfl); (· rfl); (· exact (picked_T _ _ (by omega) (by omega) (by omega))); (· exact aB); (· rfl))); (· exact aR))
      | refine X.gst ?_ | refine X.gld ?_ | refine X.new ?_ | refine X.app ?_ | refine X.appS ?_ | refine X.stoW ?_ | refine X.stoB ?_ | refine X.stoR ?_ | refine X.gand ?_ | refine X.gor ?_
      | refine nd ?_
      | ((with_reducible apply drwK.mk); (· kernel_rfl); (· exact aF))
      | fail)
    exact .fun (.inl rfl) rfl rfl
theorem room_nil : Room [] := ⟨fun f hf => by (cases hf), by simp⟩
theorem flN_fit : flN.Fit := by unfold Fl.Fit flN; simp
theorem patch_one : patchF [] [flN] [] = [flN] := by
  unfold patchF
  rw [left_none, List.nil_append]
  exact sortedF_id (List.pairwise_singleton _ _)
set_option maxHeartbeats 4000000 in
theorem frameTells_T : Fun Try.prog 36 [] (.fv (.bool true)) := by
  have c1 := frameQ_T ⟨0, 0, 0, 0⟩ ⟨#[97]⟩ ⟨by unfold N64; decide, by unfold N64; decide, by unfold N64; decide, by unfold N64; decide⟩
  have hok := frameQ_ok ⟨0, 0, 0, 0⟩ ⟨#[97]⟩
  generalize frameQ ⟨0, 0, 0, 0⟩ ⟨#[97]⟩ = F at *
  have c2 := encodeF_T F
  have hl : (encF F).length = 16 + F.body.size := by rw [encF, if_neg (by omega), bytesF_len]
  rw [hok] at c2
  generalize encF F = B at *
  have c3 := patchF_T [] [flN] [] room_nil room_nil (fun f hf => by obtain rfl := List.mem_singleton.1 hf; exact flN_fit) (by simp)
  rw [patch_one] at c3
  refine Fun.body tbl_ok Try.func36 rfl (by kernel_rfl) rfl rfl rfl ?_
  repeat' (first
    | (apply X.loE; (· exact aR); (· first | exact .eff (.bsliceFS rfl rfl rfl rfl rfl rfl) | (apply LEff.callNG; (· rfl); (· rfl); (· exact c3); (· exact aN); (· rfl)) | exact .callL rfl rfl rfl (by first | exact c1 | exact c2) rfl | (apply LEff.callBL; (· rfl); (· rfl); (· exact c1); (· exact aB); (· rfl)) | (apply LEff.callBL; (· rfl); (· rfl); (· exact c2); (· exact aB); (· rfl))))
    | refine X.loc ?_
    | refine nx ?_
    | refine X.cdT ?_
    | refine X.cdF ?_
    | (refine WP.condBit rfl ?_ ?_)
    | (refine WP.cond rfl ?_ ?_ <;> intro hcond)
    | (apply X.gsE; (· exact aR); (· exact aV); (· exact aW); (· intro hc; first | exact .eff (.bsliceFS rfl rfl rfl rfl rfl rfl) | (apply LEff.callNG; (· rfl); (· rfl); (· exact c3); (· exact aN); (· rfl)) | exact .callG rfl rfl rfl (by first | exact c1 | exact c2) rfl | (apply LEff.callBG; (· rfl); (· rfl); (· exact c1); (· exact aB); (· rfl)) | (apply LEff.callBG; (· rfl); (· rfl); (· exact c2); (· exact aB); (· rfl))); (· exact aR))
    | refine X.gst ?_ | refine X.gld ?_ | refine X.new ?_ | refine X.app ?_ | refine X.appS ?_ | refine X.stoW ?_ | refine X.stoB ?_ | refine X.stoR ?_ | refine X.gand ?_ | refine X.gor ?_
    | refine nd ?_
    | ((with_reducible apply drwK.mk); (· kernel_rfl); (· exact aF))
    | fail)
  refine .f1 (.inl rfl) rfl ?_
  congr 1
  have : decide ((B.length : Int) > 4) = true := decide_eq_true (by omega)
  simp [this]
end Go.Proofs.Ytdbbmjdeeenlhaa
