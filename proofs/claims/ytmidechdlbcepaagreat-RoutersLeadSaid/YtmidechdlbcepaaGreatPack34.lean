import Derived.Test.YtmidechdlbcepaaGreatPack33
import Derived.Test.YtmidechdlbcepaaGreatPack26
set_option linter.unusedSimpArgs false
set_option linter.unusedVariables false
namespace Go.Proofs.YtmidechdlbcepaaGreat
open Go.ChangeShapes Go.WideShapes Go.ChangeAt Go.RowKit
set_option maxRecDepth 100000

theorem twoO_T (a b : Int) : FunO Tryz.prog 20 [.fv (.int .i64 a), .fv (.int .i64 b)] [] (.agg [.osl 7, .osl 8, .nil]) [(7, .row 44 3 2 ((encSw ⟨1, 1, 50⟩ ++ encSw ⟨2, 1, 60⟩).map .fv)), (8, .row 69 5 3 ((encPo ⟨1, 1, 11, 51, a⟩ ++ encPo ⟨2, 1, 12, 52, b⟩ ++ encPo ⟨3, 2, 11, 61, b⟩).map .fv))] := by
  refine FunO.bodyL tbl_ok Tryz.func20 rfl (by kernel_rfl) rfl rfl rfl ?_
  repeat' (first | refine X.loc ?_ | refine nx ?_ | refine X.cdT ?_ | refine X.cdF ?_ | (refine WP.condBit rfl ?_ ?_) | (refine WP.cond rfl ?_ ?_ <;> intro hcond) | refine rb ?_ | refine nd ?_ | refine dk ?_ | fail)
  refine .ofL (s' := ⟨[(4, .optr 4 0)], [(4, .box 26 [.osl 7, .osl 8, .nil]), (7, .row 44 3 2 ((encSw ⟨1, 1, 50⟩ ++ encSw ⟨2, 1, 60⟩).map .fv)), (8, .row 69 5 3 ((encPo ⟨1, 1, 11, 51, a⟩ ++ encPo ⟨2, 1, 12, 52, b⟩ ++ encPo ⟨3, 2, 11, 61, b⟩).map .fv))]⟩) (by first | exact .inl rfl | exact .inr rfl) ?_ rfl rfl (by repeat' (first | exact trivial | refine ⟨⟨_, rfl, fun _ _ _ _ h => h⟩, ?_⟩))
  refine St.to [(7, .id 7), (8, .id 14)] [] rfl rfl ?_ ?_ <;> (repeat' (first | exact tA | refine t1 ?_ | exact tB | refine t2 ?_ ?_ | refine t3 ?_ | refine t4 ?_ ?_ | refine .ofEq ?_ | refine OB.To.cut rfl rfl ?_ ?_ ?_ ?_ | refine OB.To.box rfl rfl ?_ | refine ⟨⟨_, rfl, ?_⟩, ?_⟩ | refine ⟨?_, ?_⟩ | fail))
def roF (n : Int) : Fr := ⟨60001, 11, 3, 51, 61, n, 7, ⟨#[]⟩⟩
def roG (n : Int) : Fr := ⟨11, 60002, 3, 51, 61, n - 1, 7, ⟨#[]⟩⟩
theorem roF_ok {n : Int} (h : 0 ≤ n ∧ n ≤ 255) : frameFault (roF n) = 0 := by
  have e : ∀ n : Int, 0 ≤ n ∧ n ≤ 65535 → word n = true := fun n h => decide_eq_true h
  unfold frameFault roF
  dsimp only
  rw [if_neg (by omega), if_neg (by rw [e 60001 (by omega), e 11 (by omega), e 51 (by omega), e 61 (by omega), e 7 (by omega)]; simp; omega), if_neg (by decide), if_neg (by omega)]
theorem route_all {a b n : Int} (ha : 0 ≤ a ∧ a ≤ 5) (hb : 0 ≤ b ∧ b ≤ 5) (hn : 0 ≤ n ∧ n ≤ 255) :
    (delE (twoG 1 60 a b []) 1 (roF n) = 0 ∧ delR (twoG 1 60 a b []) 1 (roF n) = if n < 2 then [] else [⟨3, roG n⟩]) ∧
    (delE (twoG 2 60 a b []) 1 (roF n) = 0 ∧ delR (twoG 2 60 a b []) 1 (roF n) = []) ∧
    (delE (twoG 1 0 a b []) 1 (roF n) = 0 ∧ delR (twoG 1 0 a b []) 1 (roF n) = []) := by
  have ok : ∀ t g : Int, 1 ≤ t ∧ t ≤ 9 → 0 ≤ g ∧ g ≤ 65535 → g ≠ 50 ∧ g ≠ 51 ∧ g ≠ 52 ∧ g ≠ 61 → CfOk (twoG t g a b []) := fun t g h1 h2 h3 => two_ok h1 h2 h3 (by omega) (by omega) (by simp) (by simp)
  have al : ∀ t g net inn x y z, allowB (twoG t g a b []) net inn x y z = true := fun t g net inn x y z => allow_nil rfl _ _ _ _ _
  have led : ∀ t g : Int, ledF (twoG t g a b []) a 1 (roF n) = if 1 < n ∧ t = 1 ∧ 0 < g then [⟨2, 3, ledFr (roF n) ⟨3, 2, 11, 61, b⟩ ⟨2, t, g⟩⟩] else [] := fun t g => by
    rw [two_data (roF n) rfl rfl rfl (al ..) ha.1 hb.1, if_neg (fun h => by have := h.2.2; simp [roF] at this), if_neg (fun h => by rcases h with h | h <;> simp [roF] at h), if_neg (fun h => by have := h.2.2; simp [roF] at this)]
    simp only [List.nil_append]
    by_cases h : 1 < n ∧ t = 1 ∧ 0 < g
    · rw [if_pos h, if_pos (show (roF n).dst = 60001 ∧ 1 < (roF n).ttl ∧ t = 1 ∧ 0 < g ∧ 61 = (roF n).ipDst from ⟨rfl, h.1, h.2.1, h.2.2, rfl⟩)]
    · rw [if_neg h, if_neg (fun h2 => h ⟨h2.2.1, h2.2.2.1, h2.2.2.2.1⟩)]
  have d := fun t g h1 h2 h3 => del_is (ok t g h1 h2 h3) two_at1 ha.1 (roF_ok hn)
  refine ⟨?_, ?_, ?_⟩
  · obtain ⟨k1, k2⟩ := d 1 60 (by omega) (by omega) (by omega)
    refine ⟨k1, ?_⟩
    rw [k2, led]
    by_cases h : n < 2
    · rw [if_pos h, if_neg (by omega)]
      exact sort_nil
    · rw [if_neg h, if_pos (by omega)]
      simp only [List.flatMap_cons, List.flatMap_nil, List.append_nil]
      rw [two_arr3 _ (al ..), sort_one]
      rfl
  · obtain ⟨k1, k2⟩ := d 2 60 (by omega) (by omega) (by omega)
    refine ⟨k1, ?_⟩
    rw [k2, led, if_neg (by omega)]
    exact sort_nil
  · obtain ⟨k1, k2⟩ := d 1 0 (by omega) (by omega) (by omega)
    refine ⟨k1, ?_⟩
    rw [k2, led, if_neg (by omega)]
    exact sort_nil
set_option maxHeartbeats 8000000 in
theorem routersLead_T (a b m : Int) (ha : N64 a) (hb : N64 b) (hm : N64 m) : Fun Tryz.prog 6 [.fv (.int .i64 a), .fv (.int .i64 b), .fv (.int .i64 m)] (.fv (.bool true)) := by
  have p1 := picked_T a 6 ha.1 ha.2 (by omega)
  have p2 := picked_T b 6 hb.1 hb.2 (by omega)
  have p3 := picked_T m 256 hm.1 hm.2 (by omega)
  have h1 := pick_le (n := a) (m := 6) (by omega)
  have h2 := pick_le (n := b) (m := 6) (by omega)
  have h3 := pick_le (n := m) (m := 256) (by omega)
  generalize pick a 6 = x at *
  generalize pick b 6 = y at *
  generalize pick m 256 = n at *
  have c1 := twoO_T x y
  obtain ⟨k1, k2, k3⟩ := route_all (a := x) (b := y) (n := n) (by omega) (by omega) (by omega)
  have ok : ∀ t g : Int, 1 ≤ t ∧ t ≤ 9 → 0 ≤ g ∧ g ≤ 65535 → g ≠ 50 ∧ g ≠ 51 ∧ g ≠ 52 ∧ g ≠ 61 → CfOk (twoG t g x y []) := fun t g h1 h2 h3 => two_ok h1 h2 h3 (by omega) (by omega) (by simp) (by simp)
  have d1 := deliver0_T (twoG 1 60 x y []) 1 (roF n) (ok 1 60 (by omega) (by omega) (by omega)).small
  rw [k1.1, k1.2] at d1
  have d2 := deliver0_T (twoG 2 60 x y []) 1 (roF n) (ok 2 60 (by omega) (by omega) (by omega)).small
  rw [k2.1, k2.2] at d2
  have d3 := deliver0_T (twoG 1 0 x y []) 1 (roF n) (ok 1 0 (by omega) (by omega) (by omega)).small
  rw [k3.1, k3.2] at d3
  clear k1 k2 k3 ok
  refine Fun.body tbl_ok Tryz.func6 rfl (by kernel_rfl) rfl rfl rfl ?_
  by_cases h : n < 2
  · rw [if_pos h] at d1
    have q1 := eqAr_T [] (by simp)
    repeat' (first | (apply X.loE; (· exact aR); (· first | exact .callL rfl rfl rfl (by first | exact p1 | exact p2 | exact p3 | exact q1) rfl | exact bl (p1) | exact bl (p2) | exact bl (p3) | exact bl (q1))) | refine X.loc ?_ | refine nx ?_ | refine X.cdT ?_ | refine X.cdF ?_ | (refine WP.condBit rfl ?_ ?_) | (refine WP.cond rfl ?_ ?_ <;> intro hcond) | (apply X.gsE; (· exact aR); (· exact aV); (· exact aW); (· intro hc; first | exact .callG rfl rfl rfl (by first | exact p1 | exact p2 | exact p3 | exact q1) rfl | exact bg (p1) | exact bg (p2) | exact bg (p3) | exact bg (q1)); (· exact aR)) | refine rb ?_ | refine X.c1 (c1) ?_ | refine X.c1 (d1) ?_ | refine X.c1 (d2) ?_ | refine X.c1 (d3) ?_ | refine nd ?_ | refine dk ?_ | fail)
    exact .f1 (.inl rfl) rfl rfl
  · rw [if_neg h] at d1
    have q1 := eqAr_T [⟨3, roG n⟩] (by simp)
    repeat' (first | (apply X.loE; (· exact aR); (· first | exact .callL rfl rfl rfl (by first | exact p1 | exact p2 | exact p3 | exact q1) rfl | exact bl (p1) | exact bl (p2) | exact bl (p3) | exact bl (q1))) | refine X.loc ?_ | refine nx ?_ | refine X.cdT ?_ | refine X.cdF ?_ | (refine WP.condBit rfl ?_ ?_) | (refine WP.cond rfl ?_ ?_ <;> intro hcond) | (apply X.gsE; (· exact aR); (· exact aV); (· exact aW); (· intro hc; first | exact .callG rfl rfl rfl (by first | exact p1 | exact p2 | exact p3 | exact q1) rfl | exact bg (p1) | exact bg (p2) | exact bg (p3) | exact bg (q1)); (· exact aR)) | refine rb ?_ | refine X.c1 (c1) ?_ | refine X.c1 (d1) ?_ | refine X.c1 (d2) ?_ | refine X.c1 (d3) ?_ | refine nd ?_ | refine dk ?_ | fail)
    exact .f1 (.inl rfl) rfl rfl
theorem routersLead_open {H : Type} {enc : TypeId × Value → H} (W : World) (base : Nat) {v0 v1 v2 : Value} {d0 d1 d2 : DataW H} {p0 p1 p2 : List MemPlace} (hv0 : Value.okWide Tryz.prog W .any base 3 v0)
    (h0 : DataW.Trod enc Tryz.prog W 0 (fun _ => true) true 3 v0 d0 p0) (hv1 : Value.okWide Tryz.prog W .any base 3 v1)
    (h1 : DataW.Trod enc Tryz.prog W 0 (fun _ => true) true 3 v1 d1 p1) (hv2 : Value.okWide Tryz.prog W .any base 3 v2)
    (h2 : DataW.Trod enc Tryz.prog W 0 (fun _ => true) true 3 v2 d2 p2) : Calls Tryz.prog 6 #[v0, v1, v2] W fun e W' => e = .returned (.bool true) ∧ Below W.heap.size W W' := by
  obtain ⟨a, rfl, _, _, ha⟩ := open_int Tryz.underlying3 hv0 h0
  obtain ⟨b, rfl, _, _, hb⟩ := open_int Tryz.underlying3 hv1 h1
  obtain ⟨m, rfl, _, _, hm⟩ := open_int Tryz.underlying3 hv2 h2
  exact (routersLead_T a b m (i64_of_wf ha) (i64_of_wf hb) (i64_of_wf hm)).yes ⟨rfl, rfl, rfl, trivial⟩
end Go.Proofs.YtmidechdlbcepaaGreat
