import Derived.Test.YtmidechdlbcepaaGreatPack47
import Derived.Test.YtmidechdlbcepaaGreatPack49
import Derived.Test.YtmidechdlbcepaaGreatPack48
import Derived.Test.YtmidechdlbcepaaGreatPack37
set_option linter.unusedSimpArgs false
set_option linter.unusedVariables false
namespace Go.Proofs.YtmidechdlbcepaaGreat
open Go.ChangeShapes Go.WideShapes Go.ChangeAt Go.RowKit
set_option maxRecDepth 100000
theorem rep_cells : ∀ n, (List.replicate n ((encDe de0).map AV.fv)).flatten = (((List.replicate n de0).flatMap encDe).map AV.fv)
  | 0 => rfl
  | n + 1 => by
    rw [List.replicate_succ, List.replicate_succ, List.flatten_cons, List.flatMap_cons, List.map_append, rep_cells n]
section
variable {P : Program} {T : Tbl} {n i : Nat} {ops : Array Oper} {o : Oper} {d : Nat}
theorem X.mkDe {l : List Oper} {pre : List Fp} {K : List Fp → St → Prop} {tt : List (Nat × AV)} {H : Own} {t e b : Nat} {k k' : IntKind} {v : Int} {x y : Operand} (L : List De) (hL : v = (L.length : Int) ∧ L = List.replicate L.length de0 ∧ L.length ≤ 1000) (hK : OpsX P T n ops (i + 1) l ((⟨opN tt o.op, [d], [d]⟩) :: pre) K ⟨(d, .osl d) :: tt, (d, .row e 28 L.length ((L.flatMap encDe).map .fv)) :: H⟩)
    (hop : o.op = .makeSlice t x y := by rfl) (hx : evO tt x = some (.fv (.int k v)) := by rfl) (hy : evO tt y = some (.fv (.int k' v)) := by rfl) (h3 : lk T.sli t = some (e, 28, b) := by rfl) (h4 : lk T.zero e = some ((encDe de0).map .fv) := by rfl) (hb : Nat.ble (b * 1000) 140737488355328 = true := by rfl) (hg : o.guard = none := by rfl) (hd : o.dst = some d := by rfl) (hn : Nat.blt d n = true := by rfl) (hf : freshB ⟨tt, H⟩ [(d, .row e 28 L.length ((L.flatMap encDe).map .fv))] = true := by first | rfl | (simp only [freshB, noRefH, OB.cells, refsL_fv, refsL_app]; rfl)) :
    OpsX P T n ops i (o :: l) pre K ⟨tt, H⟩ := by
  obtain ⟨rfl, e1, h5⟩ := hL
  have hb := Nat.le_of_ble_eq_true hb
  have h6 : b * L.length ≤ 140737488355328 := Nat.le_trans (Nat.mul_le_mul_left b h5) hb
  refine X.new hK hg hd hn ?_ hf
  rw [hop]
  have := Eff.mkS (T := T) (ρ := St.ev ⟨tt, H⟩) (H := H) (d := d) (evO_ev (st := ⟨tt, H⟩) hx) (evO_ev (st := ⟨tt, H⟩) hy) h3 h4 h6 (by omega)
  rw [rep_cells, ← e1] at this
  exact .eff this
end
def frBad : Fr := ⟨0, 0, 3, 0, 0, 0, 0, ⟨#[]⟩⟩
set_option maxHeartbeats 8000000 in
theorem topBad_T (l : List Rq) (n : Int) (hl : ∀ x ∈ l, x.Ok) (h1 : -9223372036854775808 ≤ n) (h2 : n ≤ 9223372036854775807) : Fun Tryz.prog 14 [.fv (slOf encRq l), .fv (.int .i64 n)] (.fv (.bool true)) := by
  have c1 := confO_T l 20 hl (by omega)
  have hc := confOf_ok l 20
  have hs := confOf_some l 20
  generalize confOf l 20 = c at *
  have c2 := Picked_T n 50 h1 h2 (by omega)
  have hp := pick_le (n := n) (m := 50) (by omega)
  generalize pick n 50 = k at *
  obtain ⟨L, hL, hrep⟩ : ∃ L : List De, 300 + (1 + k) = (L.length : Int) ∧ L = List.replicate L.length de0 := ⟨List.replicate (301 + k.toNat) de0, by rw [List.length_replicate]; omega, by rw [List.length_replicate]⟩
  have hmk : 300 + (1 + k) = (L.length : Int) ∧ L = List.replicate L.length de0 ∧ L.length ≤ 1000 := ⟨hL, hrep, by omega⟩
  have u1 : FunO Tryz.prog 35 [.fv (slOf encDe L)] [] (.tup [.fv (slOf encRep (scrR L)), .agg ((encCf (scrC L)).map .fv), .fv (.int .i64 (scrE L))]) [] := topRun_T L (by omega)
  obtain ⟨a1, a2, a3⟩ := bad_len (l := L) (by omega)
  rw [a1, a2, a3] at u1
  have u2 := topRun_T [deSy (6 + (1 + k)), { de0 with kind := 8 + (1 + k) }, deSe (1 + k) frZ] (by simp)
  obtain ⟨b1, b2, b3⟩ := scr_short (l := [deSy (6 + (1 + k)), { de0 with kind := 8 + (1 + k) }, deSe (1 + k) frZ]) (by simp)
  rw [bad_run (by omega)] at b1
  rw [b1, b2, b3] at u2
  generalize (runS fb0 [deSy (6 + (1 + k)), { de0 with kind := 8 + (1 + k) }, deSe (1 + k) frZ]).c = c' at *
  obtain ⟨f1, f2⟩ := bad_port hc hs frBad
  have d1 : FunO Tryz.prog 17 [.agg ((encCf c).map .fv), .fv (.int .i64 999), .agg ((encFr frBad).map .fv)] [] (.tup [.osl 7, .fv (.int .i64 6)]) [(7, .row 41 9 0 [])] := by
    have := deliver0_T c 999 frBad hc.small
    rw [f1, f2] at this
    exact this
  obtain ⟨s0, hs0⟩ : ∃ s0, c.ss[0]? = some s0 := by
    obtain ⟨x, hx, _⟩ := hs.1
    cases e : c.ss with
    | nil => rw [e] at hx; cases hx
    | cons y ys => exact ⟨y, rfl⟩
  have hsl := hc.sl
  have hlen0 : 0 < c.ss.length := (List.getElem?_eq_some_iff.1 hs0).1
  have d2 : FunO Tryz.prog 17 [.agg [.fv (.sl ((c.ss ++ [s0]).flatMap encSw) (c.ss ++ [s0]).length), .fv (slOf encPo c.ps), .fv (slOf encAc c.acs)], .fv (.int .i64 1), .agg ((encFr frBad).map .fv)] [] (.tup [.fv (slOf encAr (delR ⟨c.ss ++ [s0], c.ps, c.acs⟩ 1 frBad)), .fv (.int .i64 (delE ⟨c.ss ++ [s0], c.ps, c.acs⟩ 1 frBad))]) [] := deliver_T ⟨c.ss ++ [s0], c.ps, c.acs⟩ 1 frBad ⟨by have := hc.sl; simp; omega, hc.small.2.1, hc.small.2.2⟩
  obtain ⟨g1, g2⟩ := bad_two (c := c) (List.mem_of_getElem? hs0) 1 frBad
  rw [g1, g2, List.length_append] at d2
  obtain ⟨R, hR⟩ : ∃ R : List Rep, R = [⟨2, []⟩, ⟨3, []⟩, ⟨6, []⟩] := ⟨_, rfl⟩
  rw [← hR] at u2
  have r0 : R[0]? = some ⟨2, []⟩ := by rw [hR]; rfl
  have r1 : R[1]? = some ⟨3, []⟩ := by rw [hR]; rfl
  have r2 : R[2]? = some ⟨6, []⟩ := by rw [hR]; rfl
  clear hR
  refine Fun.body tbl_ok Tryz.func14 rfl (by kernel_rfl) rfl rfl rfl ?_
  repeat' (first | (apply X.loE; (· exact aR); (· first | exact .eff (.bsliceFS rfl rfl rfl rfl rfl rfl) | (exact .eff (.loadO rfl rfl (readRSw (i := 0) (by omega) hs0))) | (exact .eff (.idxSE 0 rfl rfl (by omega) rfl encRep_len r0)) | (exact .eff (.idxSE 1 rfl rfl (by omega) rfl encRep_len r1)) | (exact .eff (.idxSE 2 rfl rfl (by omega) rfl encRep_len r2)) | exact .callL rfl rfl rfl (by first | exact c2 | exact frameTells_T | exact u2) rfl | exact bl (c2) | exact bl (frameTells_T) | exact bl (u2))) | refine X.loc ?_ | (apply X.cal true; (· exact aR); (· exact c1); (· exact aCk)) | (apply X.cal true; (· exact aR); (· exact d1); (· exact aCk)) | (refine X.mkDe L hmk ?_) | refine nx ?_ | refine X.cdT ?_ | refine X.cdF ?_ | refine cb ?_ ?_ | (refine cc ?_ ?_ <;> intro hcond) | (apply X.gsE; (· exact aR); (· exact aV); (· exact aW); (· intro hc; first | exact .eff (.bsliceFS rfl rfl rfl rfl rfl rfl) | (exact .eff (.loadO rfl rfl (readRSw (i := 0) (by omega) hs0))) | (exact .eff (.idxSE 0 rfl rfl (by omega) rfl encRep_len r0)) | (exact .eff (.idxSE 1 rfl rfl (by omega) rfl encRep_len r1)) | (exact .eff (.idxSE 2 rfl rfl (by omega) rfl encRep_len r2)) | exact .callG rfl rfl rfl (by first | exact c2 | exact frameTells_T | exact u2) rfl | exact bg (c2) | exact bg (frameTells_T) | exact bg (u2)); (· exact aR)) | refine rb ?_ | refine X.c0 (u1) ?_ | (apply X.cal false; (· exact aR); (· exact d2); (· (refine ⟨?_, ?_, ?_, ?_, ?_, ?_, ?_, ?_, ?_, ?_, ?_⟩; (· skip; (repeat' (first | exact trivial | exact AV.ToL.nil | exact .ptr rfl | exact .sl rfl | exact AV.To.nil rfl | exact .le (.refl _) rfl | exact .frz rfl rfl rfl | exact .frp rfl rfl rfl | exact .le AV.Le.nil rfl | exact AV.To.frzE rfl (by first | rfl | omega | (simp; done)) (by first | assumption | (simp only [List.flatMap_append, List.map_append]; rfl)) rfl | refine AV.To.agg ?_ | refine AV.To.fn ?_ | refine AV.ToL.cons ?_ ?_ | exact OB.To.nil rfl | refine OB.To.row rfl rfl rfl ?_ | refine OB.To.box rfl rfl ?_ | exact .ofEq rfl | refine ⟨?_, ?_⟩ | exact AV.To.cut rfl | fail))); (· skip; (repeat' (first | exact trivial | exact AV.ToL.nil | exact .ptr rfl | exact .sl rfl | exact AV.To.nil rfl | exact .le (.refl _) rfl | exact .frz rfl rfl rfl | exact .frp rfl rfl rfl | exact .le AV.Le.nil rfl | exact AV.To.frzE rfl (by first | rfl | omega | (simp; done)) (by first | assumption | (simp only [List.flatMap_append, List.map_append]; rfl)) rfl | refine AV.To.agg ?_ | refine AV.To.fn ?_ | refine AV.ToL.cons ?_ ?_ | exact OB.To.nil rfl | refine OB.To.row rfl rfl rfl ?_ | refine OB.To.box rfl rfl ?_ | exact .ofEq rfl | refine ⟨?_, ?_⟩ | exact AV.To.cut rfl | fail))); (· rfl); (· rfl); (· skip; (repeat' (first | exact OwnRn.nil | apply OwnRn.cons rfl | apply OB.Rn.row | apply OB.Rn.box | exact AV.RnL.maps _ | exact AV.RnL.nil | exact AV.Rn.nil | exact AV.Rn.le rfl | exact AV.Rn.ptr rfl | exact AV.Rn.sl rfl | apply AV.RnL.cons | apply AV.Rn.agg | apply AV.Rn.tup | apply AV.Rn.fn | apply AV.RnL.app | apply AV.RnL.mapsS | fail))); (· skip; (repeat' (first | exact OwnRn.nil | apply OwnRn.cons rfl | apply OB.Rn.row | apply OB.Rn.box | exact AV.RnL.maps _ | exact AV.RnL.nil | exact AV.Rn.nil | exact AV.Rn.le rfl | exact AV.Rn.ptr rfl | exact AV.Rn.sl rfl | apply AV.RnL.cons | apply AV.Rn.agg | apply AV.Rn.tup | apply AV.Rn.fn | apply AV.RnL.app | apply AV.RnL.mapsS | fail))); (· rfl); (· rfl); (· exact (by first | exact (rfl : _ = []) | exact (rfl : _ = [_]) | exact (rfl : _ = [_, _]) | exact (rfl : _ = [_, _, _]) | exact (rfl : _ = [_, _, _, _]) | exact (rfl : _ = [_, _, _, _, _]) | exact (rfl : _ = [_, _, _, _, _, _]) | exact (rfl : _ = [_, _, _, _, _, _, _]) | exact (rfl : _ = [_, _, _, _, _, _, _, _]) | exact (rfl : _ = [_, _, _, _, _, _, _, _, _]) | exact (rfl : _ = [_, _, _, _, _, _, _, _, _, _]) | exact (rfl : _ = [_, _, _, _, _, _, _, _, _, _, _]) | exact (rfl : _ = [_, _, _, _, _, _, _, _, _, _, _, _]) | exact (rfl : _ = [_, _, _, _, _, _, _, _, _, _, _, _, _]) | exact (rfl : _ = [_, _, _, _, _, _, _, _, _, _, _, _, _, _]) | exact (rfl : _ = [_, _, _, _, _, _, _, _, _, _, _, _, _, _, _]) | exact (rfl : _ = [_, _, _, _, _, _, _, _, _, _, _, _, _, _, _, _]))); (· first | rfl | (simp only [freeNs, noRefH, OB.cells, refsL_fv, refsL_app]; rfl)); (· exact (by first | exact (rfl : _ = []) | exact (rfl : _ = [_]) | exact (rfl : _ = [_, _]) | exact (rfl : _ = [_, _, _]) | exact (rfl : _ = [_, _, _, _]) | exact (rfl : _ = [_, _, _, _, _]) | exact (rfl : _ = [_, _, _, _, _, _]) | exact (rfl : _ = [_, _, _, _, _, _, _]) | exact (rfl : _ = [_, _, _, _, _, _, _, _]) | exact (rfl : _ = [_, _, _, _, _, _, _, _, _]) | exact (rfl : _ = [_, _, _, _, _, _, _, _, _, _]) | exact (rfl : _ = [_, _, _, _, _, _, _, _, _, _, _]) | exact (rfl : _ = [_, _, _, _, _, _, _, _, _, _, _, _]) | exact (rfl : _ = [_, _, _, _, _, _, _, _, _, _, _, _, _]) | exact (rfl : _ = [_, _, _, _, _, _, _, _, _, _, _, _, _, _]) | exact (rfl : _ = [_, _, _, _, _, _, _, _, _, _, _, _, _, _, _]) | exact (rfl : _ = [_, _, _, _, _, _, _, _, _, _, _, _, _, _, _, _])))))) | refine nd ?_ | refine dk ?_ | fail)
  exact .f1 (.inl rfl) rfl rfl
theorem topBad_open {H : Type} {enc : TypeId × Value → H} (W : World) (base : Nat) {v0 v1 : Value} {d0 d1 : DataW H} {p0 p1 : List MemPlace} (hv0 : Value.okWide Tryz.prog W .any base 57 v0)
    (h0 : DataW.Trod enc Tryz.prog W 0 (fun _ => true) true 57 v0 d0 p0) (hs0 : SizedCl Tryz.prog 57 d0) (hv1 : Value.okWide Tryz.prog W .any base 3 v1)
    (h1 : DataW.Trod enc Tryz.prog W 0 (fun _ => true) true 3 v1 d1 p1) (_hs1 : SizedCl Tryz.prog 3 d1) : Calls Tryz.prog 14 #[v0, v1] W fun e W' => e = .returned (.bool true) ∧ Below W.heap.size W W' := by
  obtain ⟨l, hl, _, hr⟩ := open_raws hv0 h0 hs0
  obtain ⟨n, rfl, _, _, hn⟩ := open_int Tryz.underlying3 hv1 h1
  have hn := i64_of_wf hn
  exact (topBad_T l n hl hn.1 hn.2).yes ⟨hr, rfl, trivial⟩
end Go.Proofs.YtmidechdlbcepaaGreat