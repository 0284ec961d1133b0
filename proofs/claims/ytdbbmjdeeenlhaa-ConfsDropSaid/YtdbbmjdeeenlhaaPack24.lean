/- What is wanted: small functions, by the logic of memory. -/
import Derived.Test.YtdbbmjdeeenlhaaPack23
import Derived.Test.YtdbbmjdeeenlhaaPack22
set_option linter.unusedSimpArgs false
set_option linter.unusedVariables false
namespace Go.Proofs.Ytdbbmjdeeenlhaa
open Go.RowKit
set_option maxRecDepth 100000

set_option maxHeartbeats 1000000 in
theorem indexSw_T (l : List Sw) (f : FuncId) (caps : List AV) (p : Sw → Bool) (hl : l.length < 9223372036854775807) (hp : ∀ x ∈ l, Fun Try.prog f (.agg ((encSw x).map .fv) :: caps) (.fv (.bool (p x)))) :
    Fun Try.prog 138 [.fv (slOf encSw l), .fn f caps] (.fv (.int .i64 (idxB p l))) := by
  refine Fun.body tbl_ok Try.func138 rfl (by kernel_rfl) rfl rfl rfl ?_
  repeat' (first
    | refine X.loc ?_
    | refine nx ?_
    | (refine WP.condBit rfl ?_ ?_)
    | (refine WP.cond rfl ?_ ?_ <;> intro hcond)
    | refine X.gst ?_ | refine X.gld ?_ | refine X.new ?_ | refine X.app ?_ | refine X.appS ?_ | refine X.stoW ?_ | refine X.stoB ?_ | refine X.stoR ?_ | refine X.gand ?_ | refine X.gor ?_
    | refine nd ?_
    | ((with_reducible apply drwK.mk); (· kernel_rfl); (· exact aF))
    | fail)
  refine WP.loop (ι := Nat) (fun k => ⟨[(0, .fv (slOf encSw l)), (1, .fn f caps), (7, .fv (.int .i64 l.length)), (8, .fv (.int .i64 k))], []⟩) (fun k => k ≤ l.length ∧ ∀ x ∈ l.take k, p x = false) (fun k => l.length - k) 0 ⟨by omega, by simp⟩ ?_ ?_
  · skip
    refine St.le_of ?_ ?_ <;> (repeat' (first | exact trivial | refine ⟨⟨_, rfl, .refl _⟩, ?_⟩ | refine ⟨⟨_, rfl, .any _⟩, ?_⟩ | refine ⟨⟨_, rfl, .of_eq ?_⟩, ?_⟩ | refine ⟨⟨_, rfl, fun _ _ _ _ h => h⟩, ?_⟩ | fail))
  rintro k ⟨hk, hd⟩
  try dsimp only
  by_cases hlt : k < l.length
  case neg =>
    repeat' (first
      | refine X.loc ?_
      | refine nx ?_
      | (refine WP.condBit rfl ?_ ?_)
      | (refine WP.cond rfl ?_ ?_ <;> intro hcond)
      | refine X.gst ?_ | refine X.gld ?_ | refine X.new ?_ | refine X.app ?_ | refine X.appS ?_ | refine X.stoW ?_ | refine X.stoB ?_ | refine X.stoR ?_ | refine X.gand ?_ | refine X.gor ?_
      | refine nd ?_
      | ((with_reducible apply drwK.mk); (· kernel_rfl); (· exact aF))
      | fail)
    · exfalso
      simp at hcond
      omega
    · refine .f1 (.inl rfl) rfl ?_
      rw [idxB_none p l (by rw [List.take_of_length_le (by omega)] at hd; exact hd)]
  case pos =>
    obtain ⟨x, hx⟩ : ∃ x, l[k]? = some x := ⟨_, List.getElem?_eq_getElem hlt⟩
    have hf := hp x (List.mem_of_getElem? hx)
    repeat' (first
      | (apply X.loE; (· exact aR); (· first | (exact .eff (.idxS rfl rfl rfl encSw_len hx)) | exact .callL rfl rfl rfl (hf) rfl | (apply LEff.callBL; (· rfl); (· rfl); (· exact hf); (· exact aB); (· rfl))))
      | refine X.loc ?_
      | refine nx ?_
      | (refine WP.condBit rfl ?_ ?_)
      | (refine WP.cond rfl ?_ ?_ <;> intro hcond)
      | (apply X.gsE; (· exact aR); (· exact aV); (· exact aW); (· intro hc; first | (exact .eff (.idxS rfl rfl rfl encSw_len hx)) | exact .callG rfl rfl rfl (hf) rfl | (apply LEff.callBG; (· rfl); (· rfl); (· exact hf); (· exact aB); (· rfl))); (· exact aR))
      | refine X.gst ?_ | refine X.gld ?_ | refine X.new ?_ | refine X.app ?_ | refine X.appS ?_ | refine X.stoW ?_ | refine X.stoB ?_ | refine X.stoR ?_ | refine X.gand ?_ | refine X.gor ?_
      | refine nd ?_
      | ((with_reducible apply drwK.mk); (· kernel_rfl); (· exact aF))
      | fail)
    · refine .f1 (.inl rfl) rfl ?_
      rw [idxB_take p l k hd (fun y hy => by rw [hx] at hy; obtain rfl := Option.some.inj hy; exact hcond) hlt]
    · refine ⟨k + 1, ⟨by omega, ?_⟩, by omega, ?_⟩
      · rw [List.take_add_one, hx]
        intro y hy
        simp at hy
        rcases hy with hy | rfl
        · exact hd y hy
        · exact hcond
      · skip
        refine St.le_of ?_ ?_ <;> (repeat' (first | exact trivial | refine ⟨⟨_, rfl, .refl _⟩, ?_⟩ | refine ⟨⟨_, rfl, .any _⟩, ?_⟩ | refine ⟨⟨_, rfl, .of_eq ?_⟩, ?_⟩ | refine ⟨⟨_, rfl, fun _ _ _ _ h => h⟩, ?_⟩ | fail))
    · exfalso
      simp at hcond
      omega
set_option maxHeartbeats 1000000 in
theorem indexPo_T (l : List Po) (f : FuncId) (caps : List AV) (p : Po → Bool) (hl : l.length < 9223372036854775807) (hp : ∀ x ∈ l, Fun Try.prog f (.agg ((encPo x).map .fv) :: caps) (.fv (.bool (p x)))) :
    Fun Try.prog 113 [.fv (slOf encPo l), .fn f caps] (.fv (.int .i64 (idxB p l))) := by
  refine Fun.body tbl_ok Try.func113 rfl (by kernel_rfl) rfl rfl rfl ?_
  repeat' (first
    | refine X.loc ?_
    | refine nx ?_
    | (refine WP.condBit rfl ?_ ?_)
    | (refine WP.cond rfl ?_ ?_ <;> intro hcond)
    | refine X.gst ?_ | refine X.gld ?_ | refine X.new ?_ | refine X.app ?_ | refine X.appS ?_ | refine X.stoW ?_ | refine X.stoB ?_ | refine X.stoR ?_ | refine X.gand ?_ | refine X.gor ?_
    | refine nd ?_
    | ((with_reducible apply drwK.mk); (· kernel_rfl); (· exact aF))
    | fail)
  refine WP.loop (ι := Nat) (fun k => ⟨[(0, .fv (slOf encPo l)), (1, .fn f caps), (7, .fv (.int .i64 l.length)), (8, .fv (.int .i64 k))], []⟩) (fun k => k ≤ l.length ∧ ∀ x ∈ l.take k, p x = false) (fun k => l.length - k) 0 ⟨by omega, by simp⟩ ?_ ?_
  · skip
    refine St.le_of ?_ ?_ <;> (repeat' (first | exact trivial | refine ⟨⟨_, rfl, .refl _⟩, ?_⟩ | refine ⟨⟨_, rfl, .any _⟩, ?_⟩ | refine ⟨⟨_, rfl, .of_eq ?_⟩, ?_⟩ | refine ⟨⟨_, rfl, fun _ _ _ _ h => h⟩, ?_⟩ | fail))
  rintro k ⟨hk, hd⟩
  try dsimp only
  by_cases hlt : k < l.length
  case neg =>
    repeat' (first
      | refine X.loc ?_
      | refine nx ?_
      | (refine WP.condBit rfl ?_ ?_)
      | (refine WP.cond rfl ?_ ?_ <;> intro hcond)
      | refine X.gst ?_ | refine X.gld ?_ | refine X.new ?_ | refine X.app ?_ | refine X.appS ?_ | refine X.stoW ?_ | refine X.stoB ?_ | refine X.stoR ?_ | refine X.gand ?_ | refine X.gor ?_
      | refine nd ?_
      | ((with_reducible apply drwK.mk); (· kernel_rfl); (· exact aF))
      | fail)
    · exfalso
      simp at hcond
      omega
    · refine .f1 (.inl rfl) rfl ?_
      rw [idxB_none p l (by rw [List.take_of_length_le (by omega)] at hd; exact hd)]
  case pos =>
    obtain ⟨x, hx⟩ : ∃ x, l[k]? = some x := ⟨_, List.getElem?_eq_getElem hlt⟩
    have hf := hp x (List.mem_of_getElem? hx)
    repeat' (first
      | (apply X.loE; (· exact aR); (· first | (exact .eff (.idxS rfl rfl rfl encPo_len hx)) | exact .callL rfl rfl rfl (hf) rfl | (apply LEff.callBL; (· rfl); (· rfl); (· exact hf); (· exact aB); (· rfl))))
      | refine X.loc ?_
      | refine nx ?_
      | (refine WP.condBit rfl ?_ ?_)
      | (refine WP.cond rfl ?_ ?_ <;> intro hcond)
      | (apply X.gsE; (· exact aR); (· exact aV); (· exact aW); (· intro hc; first | (exact .eff (.idxS rfl rfl rfl encPo_len hx)) | exact .callG rfl rfl rfl (hf) rfl | (apply LEff.callBG; (· rfl); (· rfl); (· exact hf); (· exact aB); (· rfl))); (· exact aR))
      | refine X.gst ?_ | refine X.gld ?_ | refine X.new ?_ | refine X.app ?_ | refine X.appS ?_ | refine X.stoW ?_ | refine X.stoB ?_ | refine X.stoR ?_ | refine X.gand ?_ | refine X.gor ?_
      | refine nd ?_
      | ((with_reducible apply drwK.mk); (· kernel_rfl); (· exact aF))
      | fail)
    · refine .f1 (.inl rfl) rfl ?_
      rw [idxB_take p l k hd (fun y hy => by rw [hx] at hy; obtain rfl := Option.some.inj hy; exact hcond) hlt]
    · refine ⟨k + 1, ⟨by omega, ?_⟩, by omega, ?_⟩
      · rw [List.take_add_one, hx]
        intro y hy
        simp at hy
        rcases hy with hy | rfl
        · exact hd y hy
        · exact hcond
      · skip
        refine St.le_of ?_ ?_ <;> (repeat' (first | exact trivial | refine ⟨⟨_, rfl, .refl _⟩, ?_⟩ | refine ⟨⟨_, rfl, .any _⟩, ?_⟩ | refine ⟨⟨_, rfl, .of_eq ?_⟩, ?_⟩ | refine ⟨⟨_, rfl, fun _ _ _ _ h => h⟩, ?_⟩ | fail))
    · exfalso
      simp at hcond
      omega
theorem containsPo_T (l : List Po) (f : FuncId) (caps : List AV) (p : Po → Bool) (hl : l.length < 9223372036854775807) (hp : ∀ x ∈ l, Fun Try.prog f (.agg ((encPo x).map .fv) :: caps) (.fv (.bool (p x)))) :
    Fun Try.prog 110 [.fv (slOf encPo l), .fn f caps] (.fv (.bool (l.any p))) := by
  refine Fun.body tbl_ok Try.func110 rfl (by kernel_rfl) rfl rfl rfl ?_
  repeat' (first
    | (apply X.loE; (· exact aR); (· first | exact .callL rfl rfl rfl (indexPo_T l f caps p hl hp) rfl | (apply LEff.callBL; (· rfl); (· rfl); (· exact indexPo_T l f caps p hl hp); (· exact aB); (· rfl))))
    | refine X.loc ?_
    | refine nx ?_
    | (refine WP.condBit rfl ?_ ?_)
    | (refine WP.cond rfl ?_ ?_ <;> intro hcond)
    | (apply X.gsE; (· exact aR); (· exact aV); (· exact aW); (· intro hc; first | exact .callG rfl rfl rfl (indexPo_T l f caps p hl hp) rfl | (apply LEff.callBG; (· rfl); (· rfl); (· exact indexPo_T l f caps p hl hp); (· exact aB); (· rfl))); (· exact aR))
    | refine X.gst ?_ | refine X.gld ?_ | refine X.new ?_ | refine X.app ?_ | refine X.appS ?_ | refine X.stoW ?_ | refine X.stoB ?_ | refine X.stoR ?_ | refine X.gand ?_ | refine X.gor ?_
    | refine nd ?_
    | ((with_reducible apply drwK.mk); (· kernel_rfl); (· exact aF))
    | fail)
  refine .f1 (.inl rfl) rfl ?_
  have := idxB_any p l
  cases h : l.any p
  · have := this.2 h
    simp
    omega
  · have h2 : ¬ idxB p l < 0 := fun h3 => by rw [this.1 h3] at h; cases h
    simp
    omega
theorem place1_T (s : Sw) (id : Int) : Fun Try.prog 144 [.agg ((encSw s).map .fv), .fptr [.int .i64 id]] (.fv (.bool (s.id == id))) := by
  refine Fun.body tbl_ok Try.func144 rfl (by kernel_rfl) rfl rfl rfl ?_
  repeat' (first
    | refine X.loc ?_
    | refine nx ?_
    | (refine WP.condBit rfl ?_ ?_)
    | (refine WP.cond rfl ?_ ?_ <;> intro hcond)
    | refine X.gst ?_ | refine X.gld ?_ | refine X.new ?_ | refine X.app ?_ | refine X.appS ?_ | refine X.stoW ?_ | refine X.stoB ?_ | refine X.stoR ?_ | refine X.gand ?_ | refine X.gor ?_
    | refine nd ?_
    | ((with_reducible apply drwK.mk); (· kernel_rfl); (· exact aF))
    | fail)
  exact .f1 (.inl rfl) rfl rfl
theorem port1_T (s : Po) (id : Int) : Fun Try.prog 114 [.agg ((encPo s).map .fv), .fptr [.int .i64 id]] (.fv (.bool (s.id == id))) := by
  refine Fun.body tbl_ok Try.func114 rfl (by kernel_rfl) rfl rfl rfl ?_
  repeat' (first
    | refine X.loc ?_
    | refine nx ?_
    | (refine WP.condBit rfl ?_ ?_)
    | (refine WP.cond rfl ?_ ?_ <;> intro hcond)
    | refine X.gst ?_ | refine X.gld ?_ | refine X.new ?_ | refine X.app ?_ | refine X.appS ?_ | refine X.stoW ?_ | refine X.stoB ?_ | refine X.stoR ?_ | refine X.gand ?_ | refine X.gor ?_
    | refine nd ?_
    | ((with_reducible apply drwK.mk); (· kernel_rfl); (· exact aF))
    | fail)
  exact .f1 (.inl rfl) rfl rfl
theorem place_T (c : Cf) (id : Int) (hl : c.ss.length < 9223372036854775807) : Fun Try.prog 108 [.agg ((encCf c).map .fv), .fv (.int .i64 id)] (.fv (.int .i64 (idxB (fun s => s.id == id) c.ss))) := by
  refine Fun.body tbl_ok Try.func108 rfl (by kernel_rfl) rfl rfl rfl ?_
  repeat' (first
    | (apply X.loE; (· exact aR); (· first | exact .callL rfl rfl rfl (indexSw_T c.ss _ [.fptr [.int .i64 id]] (fun s => s.id == id) hl (fun x _ => place1_T x id)) rfl | (apply LEff.callBL; (· rfl); (· rfl); (· exact indexSw_T c.ss _ [.fptr [.int .i64 id]] (fun s => s.id == id) hl (fun x _ => place1_T x id)); (· exact aB); (· rfl))))
    | refine X.loc ?_
    | refine nx ?_
    | (refine WP.condBit rfl ?_ ?_)
    | (refine WP.cond rfl ?_ ?_ <;> intro hcond)
    | (apply X.gsE; (· exact aR); (· exact aV); (· exact aW); (· intro hc; first | exact .callG rfl rfl rfl (indexSw_T c.ss _ [.fptr [.int .i64 id]] (fun s => s.id == id) hl (fun x _ => place1_T x id)) rfl | (apply LEff.callBG; (· rfl); (· rfl); (· exact indexSw_T c.ss _ [.fptr [.int .i64 id]] (fun s => s.id == id) hl (fun x _ => place1_T x id)); (· exact aB); (· rfl))); (· exact aR))
    | refine X.gst ?_ | refine X.gld ?_ | refine X.new ?_ | refine X.app ?_ | refine X.appS ?_ | refine X.stoW ?_ | refine X.stoB ?_ | refine X.stoR ?_ | refine X.gand ?_ | refine X.gor ?_
    | refine nd ?_
    | ((with_reducible apply drwK.mk); (· kernel_rfl); (· exact aF))
    | fail)
  exact .f1 (.inl rfl) rfl rfl
theorem port_T (c : Cf) (id : Int) (hl : c.ps.length < 9223372036854775807) : Fun Try.prog 64 [.agg ((encCf c).map .fv), .fv (.int .i64 id)] (.fv (.int .i64 (idxB (fun s => s.id == id) c.ps))) := by
  refine Fun.body tbl_ok Try.func64 rfl (by kernel_rfl) rfl rfl rfl ?_
  repeat' (first
    | (apply X.loE; (· exact aR); (· first | exact .callL rfl rfl rfl (indexPo_T c.ps _ [.fptr [.int .i64 id]] (fun s => s.id == id) hl (fun x _ => port1_T x id)) rfl | (apply LEff.callBL; (· rfl); (· rfl); (· exact indexPo_T c.ps _ [.fptr [.int .i64 id]] (fun s => s.id == id) hl (fun x _ => port1_T x id)); (· exact aB); (· rfl))))
    | refine X.loc ?_
    | refine nx ?_
    | (refine WP.condBit rfl ?_ ?_)
    | (refine WP.cond rfl ?_ ?_ <;> intro hcond)
    | (apply X.gsE; (· exact aR); (· exact aV); (· exact aW); (· intro hc; first | exact .callG rfl rfl rfl (indexPo_T c.ps _ [.fptr [.int .i64 id]] (fun s => s.id == id) hl (fun x _ => port1_T x id)) rfl | (apply LEff.callBG; (· rfl); (· rfl); (· exact indexPo_T c.ps _ [.fptr [.int .i64 id]] (fun s => s.id == id) hl (fun x _ => port1_T x id)); (· exact aB); (· rfl))); (· exact aR))
    | refine X.gst ?_ | refine X.gld ?_ | refine X.new ?_ | refine X.app ?_ | refine X.appS ?_ | refine X.stoW ?_ | refine X.stoB ?_ | refine X.stoR ?_ | refine X.gand ?_ | refine X.gor ?_
    | refine nd ?_
    | ((with_reducible apply drwK.mk); (· kernel_rfl); (· exact aF))
    | fail)
  exact .f1 (.inl rfl) rfl rfl
theorem tenantAt_at {ss : List Sw} {id : Int} {k : Nat} (h : idxB (fun s => s.id == id) ss = (k : Int)) : ∃ x, ss[k]? = some x ∧ tenantAt ss id = x.tenant := by
  obtain ⟨x, h1, _, h3⟩ := idxB_at _ _ _ h
  exact ⟨x, h1, by unfold tenantAt; rw [h3]⟩
theorem idxB_some {ss : List Sw} {id : Int} (h : ss.any (fun x => x.id == id) = true) : ∃ k : Nat, idxB (fun s => s.id == id) ss = (k : Int) := by
  have h1 := idxB_any (fun s : Sw => s.id == id) ss
  have h2 : ¬ idxB (fun s : Sw => s.id == id) ss < 0 := fun h3 => by rw [h1.1 h3] at h; cases h
  exact ⟨(idxB (fun s : Sw => s.id == id) ss).toNat, by omega⟩
theorem taken1_T (c : Cf) (p : Po) (tenant ip : Int) (hl : c.ss.length < 9223372036854775807) (hw : c.ss.any (fun x => x.id == p.sw) = true) : Fun Try.prog 145 [.agg ((encPo p).map .fv), .fptr [.int .i64 ip], .fptr (encCf c), .fptr [.int .i64 tenant]] (.fv (.bool (p.ip == ip && tenantAt c.ss p.sw == tenant))) := by
  obtain ⟨k, hk⟩ := idxB_some hw
  obtain ⟨x, hx, ht⟩ := tenantAt_at hk
  have hpl := place_T c p.sw hl
  rw [hk] at hpl
  refine Fun.body tbl_ok Try.func145 rfl (by kernel_rfl) rfl rfl rfl ?_
  repeat' (first
    | (apply X.loE; (· exact aR); (· first | (exact .eff (.idxS rfl rfl rfl encSw_len hx)) | exact .callL rfl rfl rfl (hpl) rfl | (apply LEff.callBL; (· rfl); (· rfl); (· exact hpl); (· exact aB); (· rfl))))
    | refine X.loc ?_
    | refine nx ?_
    | (refine WP.condBit rfl ?_ ?_)
    | (refine WP.cond rfl ?_ ?_ <;> intro hcond)
    | (apply X.gsE; (· exact aR); (· exact aV); (· exact aW); (· intro hc; first | (exact .eff (.idxS rfl rfl rfl encSw_len hx)) | exact .callG rfl rfl rfl (hpl) rfl | (apply LEff.callBG; (· rfl); (· rfl); (· exact hpl); (· exact aB); (· rfl))); (· exact aR))
    | refine X.gst ?_ | refine X.gld ?_ | refine X.new ?_ | refine X.app ?_ | refine X.appS ?_ | refine X.stoW ?_ | refine X.stoB ?_ | refine X.stoR ?_ | refine X.gand ?_ | refine X.gor ?_
    | refine nd ?_
    | ((with_reducible apply drwK.mk); (· kernel_rfl); (· exact aF))
    | fail)
  all_goals (refine .f1 (.inl rfl) rfl ?_; rw [ht])
end Go.Proofs.Ytdbbmjdeeenlhaa
