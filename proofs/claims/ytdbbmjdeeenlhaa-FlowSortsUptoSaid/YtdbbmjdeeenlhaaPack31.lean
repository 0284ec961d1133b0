/- The law FlowSorts. -/
import Derived.Test.YtdbbmjdeeenlhaaPack30
set_option linter.unusedSimpArgs false
set_option linter.unusedVariables false
namespace Go.Proofs.Ytdbbmjdeeenlhaa
open Go.ChangeShapes Go.WideShapes Go.ChangeAt Go.RowKit
set_option maxRecDepth 100000

theorem flowSorts_T (l : List Fl) (rl : Room l) (ll : l.length ≤ 1048576) : Fun Try.prog 8 [.fv (slOf encFl l)] (.fv (.bool true)) := by
  have hl := rl.len
  have c1 := sortFr_T l rl
  have c2 := sortedOf_F l rl.fit (by omega)
  have hsl := sortedF_len l
  have c3 := sameFl_T (sortedF l) (fun x hx => rl.fit x (sortedF_mem.1 hx)) (by omega)
  generalize sortedF l = S at *
  refine Fun.body tbl_ok Try.func8 rfl (by kernel_rfl) rfl rfl rfl ?_
  repeat' (first
    | (apply X.loE; (· exact aR); (· first | exact .callL rfl rfl rfl (by first | exact c1 | exact c2 | exact c3) rfl | (apply LEff.callBL; (· rfl); (· rfl); (· exact c1); (· exact aB); (· rfl)) | (apply LEff.callBL; (· rfl); (· rfl); (· exact c2); (· exact aB); (· rfl)) | (apply LEff.callBL; (· rfl); (· rfl); (· exact c3); (· exact aB); (· rfl))))
    | refine X.loc ?_
    | refine nx ?_
    | refine X.cdT ?_
    | refine X.cdF ?_
    | (refine WP.condBit rfl ?_ ?_)
    | (refine WP.cond rfl ?_ ?_ <;> intro hcond)
    | (apply X.gsE; (· exact aR); (· exact aV); (· exact aW); (· intro hc; first | exact .callG rfl rfl rfl (by first | exact c1 | exact c2 | exact c3) rfl | (apply LEff.callBG; (· rfl); (· rfl); (· exact c1); (· exact aB); (· rfl)) | (apply LEff.callBG; (· rfl); (· rfl); (· exact c2); (· exact aB); (· rfl)) | (apply LEff.callBG; (· rfl); (· rfl); (· exact c3); (· exact aB); (· rfl))); (· exact aR))
    | refine X.gst ?_ | refine X.gld ?_ | refine X.new ?_ | refine X.app ?_ | refine X.appS ?_ | refine X.stoW ?_ | refine X.stoB ?_ | refine X.stoR ?_ | refine X.gand ?_ | refine X.gor ?_
    | refine nd ?_
    | ((with_reducible apply drwK.mk); (· kernel_rfl); (· exact aF))
    | fail)
  exact .f1 (.inl rfl) rfl rfl

theorem flowSorts_open {H : Type} {enc : TypeId × Value → H} (W : World) (base : Nat) {v0 : Value} {d0 : DataW H} {p0 : List MemPlace} (hv0 : Value.okWide Try.prog W .any base 37 v0) (h0 : DataW.Trod enc Try.prog W 0 (fun _ => true) true 37 v0 d0 p0) (_hs0 : SizedCl Try.prog 37 d0) {gs : List (DataW H)} (hk : Rows.uptoSmall H ([d0] ++ gs) = true) : Calls Try.prog 8 #[v0] W fun e W' => e = .returned (.bool true) ∧ Below W.heap.size W W' := by
  obtain ⟨l, rl, ll, el⟩ := open_flowsB hv0 h0 (bulk_in hk (by simp))
  exact (flowSorts_T l rl ll).yes ⟨el, trivial⟩
end Go.Proofs.Ytdbbmjdeeenlhaa
