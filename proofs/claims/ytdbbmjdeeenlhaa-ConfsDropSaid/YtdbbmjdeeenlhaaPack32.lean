/- Frames of raw numbers, and what they tell first. -/
import Derived.Test.YtdbbmjdeeenlhaaPack31
import Derived.Test.YtdbbmjdeeenlhaaPack30
import Derived.Test.YtdbbmjdeeenlhaaPack28
import Derived.Test.YtdbbmjdeeenlhaaPack29
import Derived.Test.YtdbbmjdeeenlhaaPack23
set_option linter.unusedSimpArgs false
set_option linter.unusedVariables false
namespace Go.Proofs.Ytdbbmjdeeenlhaa
open Go.RowKit
set_option maxRecDepth 100000

theorem LEff.callNG {P : Program} {T : Tbl} {t : List (Nat × AV)} {H : Own} {d : Nat} {r : AV} {f : Operand} {args : Array Operand} {ts : Array TypeId} {fid : FuncId} {cs as0 xs : List AV} (h1 : evG t f = some (.fn fid cs)) (h2 : evGL t args.toList = some as0) (h4 : Fun P fid xs r) (h3 : AV.LeL (as0 ++ cs) xs) (h5 : r.flat = true) :
    LEff P T (fun x => (St.ev ⟨t, H⟩ x).strip) H d (.call { callee := .value f, args := args, argTypes := ts }) r [] :=
  .call (evG_ev (st := ⟨t, H⟩) h1) (by rw [evGL_ev (st := ⟨t, H⟩) h2]; exact h3) h4 h5
theorem Eff.strHE {T : Tbl} {ρ : Operand → AV} {H : Own} {d t : Nat} {x hi : Operand} {s : ByteArray} (h : Nat) {k' : IntKind} {v : Int} (h1 : ρ x = .fv (.str s)) (h2 : ρ hi = .fv (.int k' v)) (hv : v = h) (h3 : lk T.str t = some ()) (h4 : h ≤ s.size) : Eff T ρ H d (.slice t x none (some hi) none) (.fv (.str (sfx s 0 h))) [] := by
  subst hv
  exact .strH h1 h2 h3 h4
def frameQ (r : Rq) (s : ByteArray) : Fr := ⟨pick r.a 65536, pick r.b 65536, 1 + pick r.kind 3, pick r.c 65536, pick (r.a.tdiv 3) 65536, if 1 + pick r.kind 3 = 3 then pick r.b 256 else 0, if 1 + pick r.kind 3 = 3 then pick (r.c.tdiv 5) 65536 else 0, if 1 + pick r.kind 3 = 3 then sfx s 0 (min s.size 40) else ⟨#[]⟩⟩
theorem frameQ_ok (r : Rq) (s : ByteArray) : frameFault (frameQ r s) = 0 := by
  have h0 := pick_le (n := r.kind) (m := 3) (by omega)
  have h1 := pick_le (n := r.a) (m := 65536) (by omega)
  have h2 := pick_le (n := r.b) (m := 65536) (by omega)
  have h3 := pick_le (n := r.c) (m := 65536) (by omega)
  have h4 := pick_le (n := r.a.tdiv 3) (m := 65536) (by omega)
  have h5 := pick_le (n := r.b) (m := 256) (by omega)
  have h6 := pick_le (n := r.c.tdiv 5) (m := 65536) (by omega)
  have hs : (sfx s 0 (min s.size 40)).size ≤ 40 := by
    unfold sfx
    rw [ByteArray.size_extract]
    omega
  unfold frameFault frameQ
  simp only [word_not]
  by_cases hk : 1 + pick r.kind 3 = 3
  · simp only [hk, if_true]
    rw [if_neg (by omega), if_neg (by omega), if_neg (by omega), if_neg (by omega)]
  · simp only [hk, if_false]
    rw [if_neg (by omega), if_neg (by omega), if_neg (by show ¬ 40 < 0; omega), if_neg]
    rintro ⟨_, h | h | h⟩
    · exact h rfl
    · exact h rfl
    · exact h rfl
set_option maxHeartbeats 4000000 in
theorem frameQ_T (r : Rq) (s : ByteArray) (ho : r.Ok) : Fun Try.prog 38 [.agg ((encRq r).map .fv), .fv (.str s)] (.agg ((encFr (frameQ r s)).map .fv)) := by
  obtain ⟨o1, o2, o3, o4⟩ := ho
  have n1 := o1
  have n2 := o2
  have n3 := o3
  have n4 := o4
  unfold N64 at n1 n2 n3 n4
  have qa3 := quoT_bd o2 (m := 3) (by omega)
  have qc5 := quoT_bd o4 (m := 5) (by omega)
  have h0 := pick_le (n := r.kind) (m := 3) (by omega)
  have hck := picked_T r.kind 3 n1.1 n1.2 (by omega)
  have e0 : frameQ r s = ⟨pick r.a 65536, pick r.b 65536, 1 + pick r.kind 3, pick r.c 65536, pick (r.a.tdiv 3) 65536, if 1 + pick r.kind 3 = 3 then pick r.b 256 else 0, if 1 + pick r.kind 3 = 3 then pick (r.c.tdiv 5) 65536 else 0, if 1 + pick r.kind 3 = 3 then sfx s 0 (min s.size 40) else ⟨#[]⟩⟩ := rfl
  have hmin : (if (40 : Int) < (s.size : Int) then (40 : Int) else (s.size : Int)) = ((min s.size 40 : Nat) : Int) := by split <;> omega
  generalize frameQ r s = F at *
  generalize pick r.kind 3 = k at *
  refine Fun.body tbl_ok Try.func38 rfl (by kernel_rfl) rfl rfl rfl ?_
  by_cases hk : 1 + k = 3
  · rw [if_pos hk, if_pos hk, if_pos hk] at e0
    subst e0
    repeat' (first
      | (apply X.loE; (· exact aR); (· first | (refine .eff (.quoT rfl rfl ?_ ?_) <;> first | assumption | omega) | (exact .eff (.strHE (min s.size 40) rfl rfl hmin rfl (by omega))) | exact .callL rfl rfl rfl (by first | exact hck | exact (picked_T _ _ (by omega) (by omega) (by omega))) rfl | (apply LEff.callBL; (· rfl); (· rfl); (· exact hck); (· exact aB); (· rfl)) | (apply LEff.callBL; (· rfl); (· rfl); (· exact (picked_T _ _ (by omega) (by omega) (by omega))); (· exact aB); (· rfl))))
      | refine X.loc ?_
      | refine nx ?_
      | refine X.cdT ?_
      | refine X.cdF ?_
      | (refine WP.condBit rfl ?_ ?_)
      | (refine WP.cond rfl ?_ ?_ <;> intro hcond)
      | (apply X.gsE; (· exact aR); (· exact aV); (· exact aW); (· intro hc; first | (refine .eff (.quoT rfl rfl ?_ ?_) <;> first | assumption | omega) | (exact .eff (.strHE (min s.size 40) rfl rfl hmin rfl (by omega))) | exact .callG rfl rfl rfl (by first | exact hck | exact (picked_T _ _ (by omega) (by omega) (by omega))) rfl | (apply LEff.callBG; (· rfl); (· rfl); (· exact hck); (· exact aB); (· rfl)) | (apply LEff.callBG; (· rfl); (· rfl); (· exact (picked_T _ _ (by omega) (by omega) (by omega))); (· exact aB); (· rfl))); (· exact aR))
      | refine X.gst ?_ | refine X.gld ?_ | refine X.new ?_ | refine X.app ?_ | refine X.appS ?_ | refine X.stoW ?_ | refine X.stoB ?_ | refine X.stoR ?_ | refine X.gand ?_ | refine X.gor ?_
      | refine nd ?_
      | ((with_reducible apply drwK.mk); (· kernel_rfl); (· exact aF))
      | fail)
    exact .fun (.inl rfl) rfl rfl
  · rw [if_neg hk, if_neg hk, if_neg hk] at e0
    subst e0
    repeat' (first
      | (apply X.loE; (· exact aR); (· first | (refine .eff (.quoT rfl rfl ?_ ?_) <;> first | assumption | omega) | exact .callL rfl rfl rfl (by first | exact hck | exact (picked_T _ _ (by omega) (by omega) (by omega))) rfl | (apply LEff.callBL; (· rfl); (· rfl); (· exact hck); (· exact aB); (· rfl)) | (apply LEff.callBL; (· rfl); (· rfl); (· exact (picked_T _ _ (by omega) (by omega) (by omega))); (· exact aB); (· rfl))))
      | refine X.loc ?_
      | refine nx ?_
      | refine X.cdT ?_
      | refine X.cdF ?_
      | (refine WP.condBit rfl ?_ ?_)
      | (refine WP.cond rfl ?_ ?_ <;> intro hcond)
      | (apply X.gsE; (· exact aR); (· exact aV); (· exact aW); (· intro hc; first | (refine .eff (.quoT rfl rfl ?_ ?_) <;> first | assumption | omega) | exact .callG rfl rfl rfl (by first | exact hck | exact (picked_T _ _ (by omega) (by omega) (by omega))) rfl | (apply LEff.callBG; (· rfl); (· rfl); (· exact hck); (· exact aB); (· rfl)) | (apply LEff.callBG; (· rfl); (· rfl); (· exact (picked_T _ _ (by omega) (by omega) (by omega))); (· exact aB); (· rfl))); (· exact aR))
      | refine X.gst ?_ | refine X.gld ?_ | refine X.new ?_ | refine X.app ?_ | refine X.appS ?_ | refine X.stoW ?_ | refine X.stoB ?_ | refine X.stoR ?_ | refine X.gand ?_ | refine X.gor ?_
      | refine nd ?_
      | ((with_reducible apply drwK.mk); (· kernel_rfl); (· exact aF))
      | fail)
    exact .fun (.inl rfl) rfl rfl
theorem room_nil : Room [] := ⟨fun f hf => by (cases hf), by simp⟩
theorem flN_fit : flN.Fit := by unfold Fl.Fit flN; simp
theorem patch_one : patchF [] [flN] [] = [flN] := by
  unfold patchF
  rw [left_none, List.nil_append]
  exact sortedF_id (List.pairwise_singleton _ _)
set_option maxHeartbeats 4000000 in
theorem frameTells_T : Fun Try.prog 36 [] (.fv (.bool true)) := by
  have c1 := frameQ_T ⟨0, 0, 0, 0⟩ ⟨#[97]⟩ ⟨by unfold N64; decide, by unfold N64; decide, by unfold N64; decide, by unfold N64; decide⟩
  have hok := frameQ_ok ⟨0, 0, 0, 0⟩ ⟨#[97]⟩
  generalize frameQ ⟨0, 0, 0, 0⟩ ⟨#[97]⟩ = F at *
  have c2 := encodeF_T F
  have hl : (encF F).length = 16 + F.body.size := by rw [encF, if_neg (by omega), bytesF_len]
  rw [hok] at c2
  generalize encF F = B at *
  have c3 := patchF_T [] [flN] [] room_nil room_nil (fun f hf => by obtain rfl := List.mem_singleton.1 hf; exact flN_fit) (by simp)
  rw [patch_one] at c3
  refine Fun.body tbl_ok Try.func36 rfl (by kernel_rfl) rfl rfl rfl ?_
  repeat' (first
    | (apply X.loE; (· exact aR); (· first | exact .eff (.bsliceFS rfl rfl rfl rfl rfl rfl) | (apply LEff.callNG; (· rfl); (· rfl); (· exact c3); (· exact aN); (· rfl)) | exact .callL rfl rfl rfl (by first | exact c1 | exact c2) rfl | (apply LEff.callBL; (· rfl); (· rfl); (· exact c1); (· exact aB); (· rfl)) | (apply LEff.callBL; (· rfl); (· rfl); (· exact c2); (· exact aB); (· rfl))))
    | refine X.loc ?_
    | refine nx ?_
    | refine X.cdT ?_
    | refine X.cdF ?_
    | (refine WP.condBit rfl ?_ ?_)
    | (refine WP.cond rfl ?_ ?_ <;> intro hcond)
    | (apply X.gsE; (· exact aR); (· exact aV); (· exact aW); (· intro hc; first | exact .eff (.bsliceFS rfl rfl rfl rfl rfl rfl) | (apply LEff.callNG; (· rfl); (· rfl); (· exact c3); (· exact aN); (· rfl)) | exact .callG rfl rfl rfl (by first | exact c1 | exact c2) rfl | (apply LEff.callBG; (· rfl); (· rfl); (· exact c1); (· exact aB); (· rfl)) | (apply LEff.callBG; (· rfl); (· rfl); (· exact c2); (· exact aB); (· rfl))); (· exact aR))
    | refine X.gst ?_ | refine X.gld ?_ | refine X.new ?_ | refine X.app ?_ | refine X.appS ?_ | refine X.stoW ?_ | refine X.stoB ?_ | refine X.stoR ?_ | refine X.gand ?_ | refine X.gor ?_
    | refine nd ?_
    | ((with_reducible apply drwK.mk); (· kernel_rfl); (· exact aF))
    | fail)
  refine .f1 (.inl rfl) rfl ?_
  congr 1
  have : decide ((B.length : Int) > 4) = true := decide_eq_true (by omega)
  simp [this]
end Go.Proofs.Ytdbbmjdeeenlhaa

/- The walk of the law ConfsDrop. -/
namespace Go.Proofs.Ytdbbmjdeeenlhaa
open Go.ChangeShapes Go.WideShapes Go.ChangeAt Go.RowKit
set_option maxRecDepth 100000

set_option maxHeartbeats 8000000 in
theorem confsDrop_T (l : List Rq) (n m : Int) (hok : ∀ r ∈ l, r.Ok) (hn : N64 n) (hm : N64 m) : Fun Try.prog 14 [.fv (slOf encRq l), .fv (.int .i64 n), .fv (.int .i64 m)] (.fv (.bool true)) := by
  have c0 := frameTells_T
  have c1 := conf_T l 40 hok (by omega)
  have h := confOf_ok l 40
  generalize confOf l 40 = c at *
  have hlen := h.pl
  have hsl := h.sl
  have hal := h.al
  have hp2 := picked_T m 7 hm.1 hm.2 (by omega)
  have hk2 := pick_le (n := m) (m := 7) (by omega)
  generalize pick m 7 = ch at *
  refine Fun.body tbl_ok Try.func14 rfl (by kernel_rfl) rfl rfl rfl ?_
  by_cases h0 : c.ps.length = 0
  · skip
    repeat' (first
      | (apply X.loE; (· exact aR); (· first | exact .callL rfl rfl rfl (by first | exact c0 | exact c1) rfl | (apply LEff.callBL; (· rfl); (· rfl); (· exact c0); (· exact aB); (· rfl)) | (apply LEff.callBL; (· rfl); (· rfl); (· exact c1); (· exact aB); (· rfl))))
      | refine X.loc ?_
      | refine nx ?_
      | refine X.cdT ?_
      | refine X.cdF ?_
      | (refine WP.condBit rfl ?_ ?_)
      | (refine WP.cond rfl ?_ ?_ <;> intro hcond)
      | (apply X.gsE; (· exact aR); (· exact aV); (· exact aW); (· intro hc; first | exact .callG rfl rfl rfl (by first | exact c0 | exact c1) rfl | (apply LEff.callBG; (· rfl); (· rfl); (· exact c0); (· exact aB); (· rfl)) | (apply LEff.callBG; (· rfl); (· rfl); (· exact c1); (· exact aB); (· rfl))); (· exact aR))
      | refine X.gst ?_ | refine X.gld ?_ | refine X.new ?_ | refine X.app ?_ | refine X.appS ?_ | refine X.stoW ?_ | refine X.stoB ?_ | refine X.stoR ?_ | refine X.gand ?_ | refine X.gor ?_
      | refine nd ?_
      | ((with_reducible apply drwK.mk); (· kernel_rfl); (· exact aF))
      | fail)
    exact .f1 (.inl rfl) rfl rfl
  · have hp1 := picked_T n c.ps.length hn.1 hn.2 (by omega)
    have hk1 := pick_le (n := n) (m := c.ps.length) (by omega)
    obtain ⟨k, ek⟩ : ∃ k : Nat, pick n c.ps.length = k := ⟨_, (Int.toNat_of_nonneg hk1.1).symm⟩
    rw [ek] at hk1 hp1
    obtain ⟨x, hx⟩ : ∃ x, c.ps[k]? = some x := ⟨_, List.getElem?_eq_getElem (by omega)⟩
    have m1 := apply_T c { de0 with kind := 4, n := x.id } h.fit
    rw [drop_E h hx, drop_R h hx] at m1
    have hch : -1 ≤ ch - 1 ∧ ch - 1 ≤ 5 := by omega
    have m2 := apply_T c { de0 with kind := 6, n := x.id, m := ch - 1 } h.fit
    rw [bind_E h hx hch, bind_R h hx hch] at m2
    have m3 := apply_T { c with ps := c.ps.eraseIdx k } { de0 with kind := 6, n := x.id } (drop_ok h hx).fit
    rw [gone_E h hx] at m3
    generalize applyR { c with ps := c.ps.eraseIdx k } { de0 with kind := 6, n := x.id } = R3 at *
    have hba := bind_at hx (ch - 1)
    have hgl := gone_len hx
    have hml : (c.ps.modify k fun q => { q with ch := ch - 1 }).length = c.ps.length := List.length_modify _ _ _
    have q1 := eqSw_T c.ss (by omega)
    have q2 := eqAc_T c.acs (by omega)
    have q3 := eqPo_T (c.ps.eraseIdx k) (by omega)
    have d1 := clonePo_T c.ps (by omega)
    have d2 := deletePo_T c.ps k ((k : Int) + 1) (by omega) (by omega) (by omega)
    rw [show c.ps.length - 1 = (c.ps.eraseIdx k).length by omega] at d2
    generalize c.ps.eraseIdx k = E at *
    generalize (c.ps.modify k fun q => { q with ch := ch - 1 }) = M at *
    repeat' (first
      | (apply X.loE; (· exact aR); (· first | exact .callL rfl rfl rfl (by first | exact c0 | exact c1 | exact hp1 | exact hp2 | exact m1 | exact m2 | exact m3 | exact q1 | exact q2 | exact q3) rfl | (apply LEff.callBL; (· rfl); (· rfl); (· exact c0); (· exact aB); (· rfl)) | (apply LEff.callBL; (· rfl); (· rfl); (· exact c1); (· exact aB); (· rfl)) | (apply LEff.callBL; (· rfl); (· rfl); (· exact hp1); (· exact aB); (· rfl)) | (apply LEff.callBL; (· rfl); (· rfl); (· exact hp2); (· exact aB); (· rfl)) | (apply LEff.callBL; (· rfl); (· rfl); (· exact m1); (· exact aB); (· rfl)) | (apply LEff.callBL; (· rfl); (· rfl); (· exact m2); (· exact aB); (· rfl)) | (apply LEff.callBL; (· rfl); (· rfl); (· exact m3); (· exact aB); (· rfl)) | (apply LEff.callBL; (· rfl); (· rfl); (· exact q1); (· exact aB); (· rfl)) | (apply LEff.callBL; (· rfl); (· rfl); (· exact q2); (· exact aB); (· rfl)) | (apply LEff.callBL; (· rfl); (· rfl); (· exact q3); (· exact aB); (· rfl))))
      | refine X.loc ?_
      | (apply X.grd; (· exact aR); (· first |rfl |(simp [beqL, beqV]; done) |(simp [beqL, beqV]; omega)); (· first |(refine X.loc ?_; exact X.nil ⟨rfl, rfl⟩) |(apply X.cal false; (· exact aR); (· exact d1); (· exact aC); exact X.nil ⟨rfl, rfl⟩) |(apply X.cal false; (· exact aR); (· exact d2); (· exact aC); exact X.nil ⟨rfl, rfl⟩)); (· rfl))
      | refine nx ?_
      | refine X.cdT ?_
      | refine X.cdF ?_
      | (refine WP.condBit rfl ?_ ?_)
      | (refine WP.cond rfl ?_ ?_ <;> intro hcond)
      | (apply X.gsE; (· exact aR); (· exact aV); (· exact aW); (· intro hc; first | exact .callG rfl rfl rfl (by first | exact c0 | exact c1 | exact hp1 | exact hp2 | exact m1 | exact m2 | exact m3 | exact q1 | exact q2 | exact q3) rfl | (apply LEff.callBG; (· rfl); (· rfl); (· exact c0); (· exact aB); (· rfl)) | (apply LEff.callBG; (· rfl); (· rfl); (· exact c1); (· exact aB); (· rfl)) | (apply LEff.callBG; (· rfl); (· rfl); (· exact hp1); (· exact aB); (· rfl)) | (apply LEff.callBG; (· rfl); (· rfl); (· exact hp2); (· exact aB); (· rfl)) | (apply LEff.callBG; (· rfl); (· rfl); (· exact m1); (· exact aB); (· rfl)) | (apply LEff.callBG; (· rfl); (· rfl); (· exact m2); (· exact aB); (· rfl)) | (apply LEff.callBG; (· rfl); (· rfl); (· exact m3); (· exact aB); (· rfl)) | (apply LEff.callBG; (· rfl); (· rfl); (· exact q1); (· exact aB); (· rfl)) | (apply LEff.callBG; (· rfl); (· rfl); (· exact q2); (· exact aB); (· rfl)) | (apply LEff.callBG; (· rfl); (· rfl); (· exact q3); (· exact aB); (· rfl))); (· exact aR))
      | refine X.gst ?_ | refine X.gld ?_ | refine X.new ?_ | refine X.app ?_ | refine X.appS ?_ | refine X.stoW ?_ | refine X.stoB ?_ | refine X.stoR ?_ | refine X.gand ?_ | refine X.gor ?_
      | refine nd ?_
      | ((with_reducible apply drwK.mk); (· kernel_rfl); (· exact aF))
      | fail)
    refine .f1 (.inl rfl) rfl ?_
    congr 1
    simp [beqL, beqV]
    try omega
theorem confsDrop_open {H : Type} {enc : TypeId × Value → H} (W : World) (base : Nat) {v0 v1 v2 : Value} {d0 d1 d2 : DataW H} {p0 p1 p2 : List MemPlace} (hv0 : Value.okWide Try.prog W .any base 40 v0)
    (h0 : DataW.Trod enc Try.prog W 0 (fun _ => true) true 40 v0 d0 p0) (hs0 : SizedCl Try.prog 40 d0) (hv1 : Value.okWide Try.prog W .any base 3 v1)
    (h1 : DataW.Trod enc Try.prog W 0 (fun _ => true) true 3 v1 d1 p1) (_hs1 : SizedCl Try.prog 3 d1) (hv2 : Value.okWide Try.prog W .any base 3 v2)
    (h2 : DataW.Trod enc Try.prog W 0 (fun _ => true) true 3 v2 d2 p2) (_hs2 : SizedCl Try.prog 3 d2) : Calls Try.prog 14 #[v0, v1, v2] W fun e W' => e = .returned (.bool true) ∧ Below W.heap.size W W' := by
  obtain ⟨l, hl, _, hr⟩ := open_raws hv0 h0 hs0
  obtain ⟨n, rfl, _, _, hw⟩ := open_int Try.underlying3 hv1 h1
  obtain ⟨m, rfl, _, _, hw2⟩ := open_int Try.underlying3 hv2 h2
  exact (confsDrop_T l n m hl (i64_of_wf hw) (i64_of_wf hw2)).yes ⟨hr, rfl, rfl, trivial⟩
end Go.Proofs.Ytdbbmjdeeenlhaa
