import Derived.Test.YtmidechdlbcepaaGreatPack33
import Derived.Test.YtmidechdlbcepaaGreatPack26
import Derived.Test.YtmidechdlbcepaaGreatPack23
set_option linter.unusedSimpArgs false
set_option linter.unusedVariables false
namespace Go.Proofs.YtmidechdlbcepaaGreat
open Go.ChangeShapes Go.WideShapes Go.ChangeAt Go.RowKit
set_option maxRecDepth 100000

def asF (ip : Int) : Fr := ⟨65535, 11, 1, 51, ip, 0, 0, ⟨#[]⟩⟩
def anF (ip mac : Int) : Fr := ⟨11, mac, 2, ip, 51, 0, 0, ⟨#[]⟩⟩
theorem asF_ok {ip : Int} (h : 0 ≤ ip ∧ ip ≤ 65535) : frameFault (asF ip) = 0 := by
  have e : ∀ n : Int, 0 ≤ n ∧ n ≤ 65535 → word n = true := fun n h => decide_eq_true h
  unfold frameFault asF
  dsimp only
  rw [if_neg (by omega), if_neg (by rw [e _ h, e 65535 (by omega), e 11 (by omega), e 51 (by omega), e 0 (by omega)]; simp), if_neg (by decide), if_neg (by decide)]
theorem ask_all {a b ip : Int} (ha : 0 ≤ a ∧ a ≤ 5) (hb : -1 ≤ b ∧ b ≤ 5) (hi : 0 ≤ ip ∧ ip ≤ 65535) :
    delE (twoG 1 60 a b []) 1 (asF ip) = 0 ∧ delR (twoG 1 60 a b []) 1 (asF ip) = if ip = 50 then [⟨1, anF 50 60001⟩] else if ip = 52 then [⟨1, anF 52 12⟩] else [] := by
  have hc : CfOk (twoG 1 60 a b []) := two_ok (by omega) (by omega) (by omega) (by omega) (by omega) (by simp) (by simp)
  obtain ⟨k1, k2⟩ := del_is hc two_at1 ha.1 (asF_ok hi)
  refine ⟨k1, ?_⟩
  rw [k2, two_ask (asF ip) rfl rfl rfl]
  show AS.sortA (List.flatMap _ (if ip = 50 then _ else if ip = 52 then _ else _)) = _
  by_cases h1 : ip = 50
  · rw [if_pos h1, if_pos h1]
    simp only [List.flatMap_cons, List.flatMap_nil, List.append_nil]
    rw [two_arr1 _ (.inl rfl), sort_one]
    rfl
  · rw [if_neg h1, if_neg h1]
    by_cases h2 : ip = 52
    · rw [if_pos h2, if_pos h2]
      simp only [List.flatMap_cons, List.flatMap_nil, List.append_nil]
      rw [two_arr1 _ (.inl rfl), sort_one]
      rfl
    · rw [if_neg h2, if_neg h2]
      exact sort_nil
theorem ask_T (c : Cf) (hc : CfOk c) (ip : Int) (R : List Ar) (h : delE c 1 (asF ip) = 0 ∧ delR c 1 (asF ip) = R) : FunO Tryz.prog 23 [.fv (.int .i64 ip), .optr 1000 0] [(1000, .box 26 ((encCf c).map .fv))] (.fv (slOf encAr R)) [(1000, .box 26 ((encCf c).map .fv))] := by
  have c1 := deliver_T c 1 (asF ip) hc.small
  rw [h.1, h.2] at c1
  refine FunO.bodyL tbl_ok Tryz.func23 rfl (by kernel_rfl) rfl rfl rfl ?_
  repeat' (first | (apply X.loE; (· exact aR); (· first | exact .callL rfl rfl rfl (c1) rfl | exact bl (c1))) | refine X.loc ?_ | refine nx ?_ | refine X.cdT ?_ | refine X.cdF ?_ | (refine WP.condBit rfl ?_ ?_) | (refine WP.cond rfl ?_ ?_ <;> intro hcond) | (apply X.gsE; (· exact aR); (· exact aV); (· exact aW); (· intro hc; first | exact .callG rfl rfl rfl (c1) rfl | exact bg (c1)); (· exact aR)) | refine rb ?_ | refine nd ?_ | refine dk ?_ | fail)
  refine .ofL (s' := ⟨[(3, .fv (slOf encAr R))], [(1000, .box 26 ((encCf c).map .fv))]⟩) (by first | exact .inl rfl | exact .inr rfl) ?_ rfl rfl (by repeat' (first | exact trivial | refine ⟨⟨_, rfl, fun _ _ _ _ h => h⟩, ?_⟩))
  refine St.to [] [] rfl rfl ?_ ?_ <;> (repeat' (first | exact tA | refine t1 ?_ | exact tB | refine t2 ?_ ?_ | refine t3 ?_ | refine t4 ?_ ?_ | refine .ofEq ?_ | refine OB.To.cut rfl rfl ?_ ?_ ?_ ?_ | refine OB.To.box rfl rfl ?_ | refine ⟨⟨_, rfl, ?_⟩, ?_⟩ | refine ⟨?_, ?_⟩ | fail))
theorem reply_T (ip mac : Int) : Fun Tryz.prog 24 [.fv (.int .i64 ip), .fv (.int .i64 mac)] (.fv (slOf encAr [⟨1, anF ip mac⟩])) := by
  refine Fun.body tbl_ok Tryz.func24 rfl (by kernel_rfl) rfl rfl rfl ?_
  repeat' (first | (apply X.loE; (· exact aR); (· first | exact .eff (.bsliceFS rfl rfl rfl rfl rfl rfl))) | refine X.loc ?_ | refine nx ?_ | refine X.cdT ?_ | refine X.cdF ?_ | (refine WP.condBit rfl ?_ ?_) | (refine WP.cond rfl ?_ ?_ <;> intro hcond) | (apply X.gsE; (· exact aR); (· exact aV); (· exact aW); (· intro hc; first | exact .eff (.bsliceFS rfl rfl rfl rfl rfl rfl)); (· exact aR)) | refine rb ?_ | refine nd ?_ | refine dk ?_ | fail)
  exact .fun (.inl rfl) rfl rfl
set_option maxHeartbeats 8000000 in
theorem asksAnswered_T (a b : Int) (ha : N64 a) (hb : N64 b) : Fun Tryz.prog 7 [.fv (.int .i64 a), .fv (.int .i64 b)] (.fv (.bool true)) := by
  have p1 := picked_T a 6 ha.1 ha.2 (by omega)
  have p2 := picked_T b 7 hb.1 hb.2 (by omega)
  have h1 := pick_le (n := a) (m := 6) (by omega)
  have h2 := pick_le (n := b) (m := 7) (by omega)
  generalize pick a 6 = x at *
  generalize pick b 7 = z at *
  have c1 := two_of_T x (z - 1)
  have hx : 0 ≤ x ∧ x ≤ 5 := by omega
  have hy : -1 ≤ z - 1 ∧ z - 1 ≤ 5 := by omega
  have hc : CfOk (twoG 1 60 x (z - 1) []) := two_ok (by omega) (by omega) (by omega) (by omega) (by omega) (by simp) (by simp)
  have u1 := ask_T _ hc 52 [⟨1, anF 52 12⟩] (ask_all hx hy (by omega))
  have u2 := ask_T _ hc 50 [⟨1, anF 50 60001⟩] (ask_all hx hy (by omega))
  have u3 := ask_T _ hc 51 [] (ask_all hx hy (by omega))
  have u4 := ask_T _ hc 61 [] (ask_all hx hy (by omega))
  have u5 := ask_T _ hc 60 [] (ask_all hx hy (by omega))
  have r1 := reply_T 52 12
  have r2 := reply_T 50 60001
  have q1 := eqAr_T [⟨1, anF 52 12⟩] (by simp)
  have q2 := eqAr_T [⟨1, anF 50 60001⟩] (by simp)
  refine Fun.body tbl_ok Tryz.func7 rfl (by kernel_rfl) rfl rfl rfl ?_
  repeat' (first | (apply X.loE; (· exact aR); (· first | exact .callL rfl rfl rfl (by first | exact p1 | exact p2 | exact c1 | exact r1 | exact r2 | exact q1 | exact q2) rfl | exact bl (p1) | exact bl (p2) | exact bl (c1) | exact bl (r1) | exact bl (r2) | exact bl (q1) | exact bl (q2))) | refine X.loc ?_ | (apply X.grd; (· exact aR); (· first |rfl |(simp; done)); (· first |(refine X.loc ?_; exact X.nil ⟨rfl, rfl⟩) |(refine X.c0 u2 ?_; exact X.nil ⟨rfl, rfl⟩) |(refine X.c0 u3 ?_; exact X.nil ⟨rfl, rfl⟩) |(refine X.c0 u4 ?_; exact X.nil ⟨rfl, rfl⟩) |(refine X.c0 u5 ?_; exact X.nil ⟨rfl, rfl⟩)); (· rfl)) | refine nx ?_ | refine X.cdT ?_ | refine X.cdF ?_ | (refine WP.condBit rfl ?_ ?_) | (refine WP.cond rfl ?_ ?_ <;> intro hcond) | (apply X.gsE; (· exact aR); (· exact aV); (· exact aW); (· intro hc; first | exact .callG rfl rfl rfl (by first | exact p1 | exact p2 | exact c1 | exact r1 | exact r2 | exact q1 | exact q2) rfl | exact bg (p1) | exact bg (p2) | exact bg (c1) | exact bg (r1) | exact bg (r2) | exact bg (q1) | exact bg (q2)); (· exact aR)) | refine rb ?_ | refine X.c0 (u1) ?_ | refine nd ?_ | refine dk ?_ | fail)
  exact .f1 (.inl rfl) rfl rfl
theorem asksAnswered_open {H : Type} {enc : TypeId × Value → H} (W : World) (base : Nat) {v0 v1 : Value} {d0 d1 : DataW H} {p0 p1 : List MemPlace} (hv0 : Value.okWide Tryz.prog W .any base 3 v0)
    (h0 : DataW.Trod enc Tryz.prog W 0 (fun _ => true) true 3 v0 d0 p0) (hv1 : Value.okWide Tryz.prog W .any base 3 v1)
    (h1 : DataW.Trod enc Tryz.prog W 0 (fun _ => true) true 3 v1 d1 p1) : Calls Tryz.prog 7 #[v0, v1] W fun e W' => e = .returned (.bool true) ∧ Below W.heap.size W W' := by
  obtain ⟨a, rfl, _, _, ha⟩ := open_int Tryz.underlying3 hv0 h0
  obtain ⟨b, rfl, _, _, hb⟩ := open_int Tryz.underlying3 hv1 h1
  exact (asksAnswered_T a b (i64_of_wf ha) (i64_of_wf hb)).yes ⟨rfl, rfl, trivial⟩
end Go.Proofs.YtmidechdlbcepaaGreat
