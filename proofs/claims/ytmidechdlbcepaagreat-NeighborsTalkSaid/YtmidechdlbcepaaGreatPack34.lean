import Derived.Test.YtmidechdlbcepaaGreatPack33
import Derived.Test.YtmidechdlbcepaaGreatPack26
import Derived.Test.YtmidechdlbcepaaGreatPack27
import Derived.Test.YtmidechdlbcepaaGreatPack23
import Derived.ChangeMaps5
set_option linter.unusedSimpArgs false
set_option linter.unusedVariables false
namespace Go.Proofs.YtmidechdlbcepaaGreat
open Go.ChangeShapes Go.WideShapes Go.ChangeAt Go.RowKit
set_option maxRecDepth 100000

def nF (dst src ip : Int) (s : ByteArray) : Fr := ⟨dst, src, 3, ip, 52, 0, 0, s⟩
theorem nF_ok {dst src ip : Int} {s : ByteArray} (h1 : 0 ≤ dst ∧ dst ≤ 65535) (h2 : 0 ≤ src ∧ src ≤ 65535) (h3 : 0 ≤ ip ∧ ip ≤ 65535) (hs : s.size ≤ 40) : frameFault (nF dst src ip s) = 0 := by
  have e : ∀ n : Int, 0 ≤ n ∧ n ≤ 65535 → word n = true := fun n h => decide_eq_true h
  unfold frameFault nF
  dsimp only
  rw [if_neg (by omega), if_neg (by rw [e _ h1, e _ h2, e _ h3, e 52 (by omega), e 0 (by omega)]; simp), if_neg (by omega), if_neg (by omega)]
theorem talk_all {a b : Int} (ha : 0 ≤ a ∧ a ≤ 5) (hb : 0 ≤ b ∧ b ≤ 5) {s : ByteArray} (hs : s.size ≤ 40) :
    (delE (twoG 1 60 a b []) 1 (nF 12 11 51 s) = 0 ∧ delR (twoG 1 60 a b []) 1 (nF 12 11 51 s) = [⟨2, nF 12 11 51 s⟩]) ∧
    (delE (twoG 1 60 a b []) 1 (nF 12 12 51 s) = 0 ∧ delR (twoG 1 60 a b []) 1 (nF 12 12 51 s) = []) ∧
    (delE (twoG 1 60 a b []) 1 (nF 12 11 52 s) = 0 ∧ delR (twoG 1 60 a b []) 1 (nF 12 11 52 s) = []) ∧
    (delE (twoG 1 60 a b []) 1 (nF 65535 11 51 s) = 0 ∧ delR (twoG 1 60 a b []) 1 (nF 65535 11 51 s) = [⟨2, nF 65535 11 51 s⟩]) ∧
    (delE (twoG 1 60 a b []) 1 (nF 11 11 51 s) = 0 ∧ delR (twoG 1 60 a b []) 1 (nF 11 11 51 s) = []) := by
  have hc : CfOk (twoG 1 60 a b []) := two_ok (by omega) (by omega) (by omega) (by omega) (by omega) (by simp) (by simp)
  have key : ∀ dst src ip, 0 ≤ dst ∧ dst ≤ 65535 → 0 ≤ src ∧ src ≤ 65535 → 0 ≤ ip ∧ ip ≤ 65535 → delE (twoG 1 60 a b []) 1 (nF dst src ip s) = 0 ∧ delR (twoG 1 60 a b []) 1 (nF dst src ip s) = AS.sortA ((ledF (twoG 1 60 a b []) a 1 (nF dst src ip s)).flatMap (arrC (twoG 1 60 a b []))) :=
    fun dst src ip h1 h2 h3 => del_is hc two_at1 ha.1 (nF_ok h1 h2 h3 hs)
  have al : ∀ net inn x y z, allowB (twoG 1 60 a b []) net inn x y z = true := fun net inn x y z => allow_nil rfl _ _ _ _ _
  refine ⟨?_, ?_, ?_, ?_, ?_⟩
  · obtain ⟨k1, k2⟩ := key 12 11 51 (by omega) (by omega) (by omega)
    refine ⟨k1, ?_⟩
    rw [k2, two_data _ rfl rfl rfl (al ..) ha.1 hb.1, if_neg (fun h => by have := h.1; simp [nF] at this), if_pos (.inr rfl), if_neg (fun h => by have := h.1; simp [nF] at this), if_neg (fun h => by have := h.1; simp [nF] at this)]
    simp only [List.nil_append, List.append_nil, List.flatMap_cons, List.flatMap_nil]
    rw [two_arr2 _ (.inr (al ..)), sort_one]
  · obtain ⟨k1, k2⟩ := key 12 12 51 (by omega) (by omega) (by omega)
    refine ⟨k1, ?_⟩
    rw [k2, two_lie _ (.inl (by show (12 : Int) ≠ 11; decide))]
    exact sort_nil
  · obtain ⟨k1, k2⟩ := key 12 11 52 (by omega) (by omega) (by omega)
    refine ⟨k1, ?_⟩
    rw [k2, two_lie _ (.inr (by show (52 : Int) ≠ 51; decide))]
    exact sort_nil
  · obtain ⟨k1, k2⟩ := key 65535 11 51 (by omega) (by omega) (by omega)
    refine ⟨k1, ?_⟩
    rw [k2, two_data _ rfl rfl rfl (al ..) ha.1 hb.1, if_neg (fun h => by have := h.1; simp [nF] at this), if_pos (.inl rfl), if_neg (fun h => by have := h.1; simp [nF] at this), if_neg (fun h => by have := h.1; simp [nF] at this)]
    simp only [List.nil_append, List.append_nil, List.flatMap_cons, List.flatMap_nil]
    rw [two_arr2 _ (.inr (al ..)), sort_one]
  · obtain ⟨k1, k2⟩ := key 11 11 51 (by omega) (by omega) (by omega)
    refine ⟨k1, ?_⟩
    rw [k2, two_data _ rfl rfl rfl (al ..) ha.1 hb.1, if_neg (fun h => by have := h.1; simp [nF] at this), if_neg (fun h => by rcases h with h | h <;> simp [nF] at h), if_neg (fun h => by have := h.1; simp [nF] at this), if_neg (fun h => by have := h.1; simp [nF] at this)]
    exact sort_nil
set_option maxHeartbeats 8000000 in
theorem neighborsTalk_T (a b : Int) (s : ByteArray) (ha : N64 a) (hb : N64 b) : Fun Tryz.prog 5 [.fv (.int .i64 a), .fv (.int .i64 b), .fv (.str s)] (.fv (.bool true)) := by
  have p1 := picked_T a 6 ha.1 ha.2 (by omega)
  have p2 := picked_T b 6 hb.1 hb.2 (by omega)
  have h1 := pick_le (n := a) (m := 6) (by omega)
  have h2 := pick_le (n := b) (m := 6) (by omega)
  generalize pick a 6 = x at *
  generalize pick b 6 = y at *
  have c1 := two_of_T x y
  have hmin : (if (40 : Int) < (s.size : Int) then (40 : Int) else (s.size : Int)) = ((min s.size 40 : Nat) : Int) := by split <;> omega
  have hs : (sfx s 0 (min s.size 40)).size ≤ 40 := by
    unfold sfx
    rw [ByteArray.size_extract]
    omega
  obtain ⟨k1, k2, k3, k4, k5⟩ := talk_all (a := x) (b := y) (by omega) (by omega) hs
  have hsm := (two_ok (t := 1) (g := 60) (a := x) (b := y) (l := []) (by omega) (by omega) (by omega) (by omega) (by omega) (by simp) (by simp)).small
  have d1 := deliver_T (twoG 1 60 x y []) 1 (nF 12 11 51 (sfx s 0 (min s.size 40))) hsm
  rw [k1.1, k1.2] at d1
  have d2 := deliver_T (twoG 1 60 x y []) 1 (nF 12 12 51 (sfx s 0 (min s.size 40))) hsm
  rw [k2.1, k2.2] at d2
  have d3 := deliver_T (twoG 1 60 x y []) 1 (nF 12 11 52 (sfx s 0 (min s.size 40))) hsm
  rw [k3.1, k3.2] at d3
  have d4 := deliver_T (twoG 1 60 x y []) 1 (nF 65535 11 51 (sfx s 0 (min s.size 40))) hsm
  rw [k4.1, k4.2] at d4
  have d5 := deliver_T (twoG 1 60 x y []) 1 (nF 11 11 51 (sfx s 0 (min s.size 40))) hsm
  rw [k5.1, k5.2] at d5
  have q1 := eqAr_T [⟨2, nF 12 11 51 (sfx s 0 (min s.size 40))⟩] (by simp)
  clear k1 k2 k3 k4 k5
  refine Fun.body tbl_ok Tryz.func5 rfl (by kernel_rfl) rfl rfl rfl ?_
  repeat' (first | (apply X.loE; (· exact aR); (· first | (exact .eff (.strHE (min s.size 40) rfl rfl hmin rfl (by omega))) | (exact .eff (.idxS (u := ⟨2, nF 65535 11 51 (sfx s 0 (min s.size 40))⟩) rfl rfl rfl encAr_len rfl)) | exact .callL rfl rfl rfl (by first | exact p1 | exact p2 | exact c1 | exact d1 | exact d2 | exact d3 | exact d4 | exact d5 | exact q1) rfl | exact bl (p1) | exact bl (p2) | exact bl (c1) | exact bl (d1) | exact bl (d2) | exact bl (d3) | exact bl (d4) | exact bl (d5) | exact bl (q1))) | refine X.loc ?_ | (apply X.grd; (· exact aR); (· first |rfl |(simp; done)); (· first |(refine X.loc ?_; exact X.nil ⟨rfl, rfl⟩) |(refine X.new ?_; exact X.nil ⟨rfl, rfl⟩)); (· rfl)) | refine nx ?_ | refine X.cdT ?_ | refine X.cdF ?_ | (refine WP.condBit rfl ?_ ?_) | (refine WP.cond rfl ?_ ?_ <;> intro hcond) | (apply X.gsE; (· exact aR); (· exact aV); (· exact aW); (· intro hc; first | (exact .eff (.strHE (min s.size 40) rfl rfl hmin rfl (by omega))) | (exact .eff (.idxS (u := ⟨2, nF 65535 11 51 (sfx s 0 (min s.size 40))⟩) rfl rfl rfl encAr_len rfl)) | exact .callG rfl rfl rfl (by first | exact p1 | exact p2 | exact c1 | exact d1 | exact d2 | exact d3 | exact d4 | exact d5 | exact q1) rfl | exact bg (p1) | exact bg (p2) | exact bg (c1) | exact bg (d1) | exact bg (d2) | exact bg (d3) | exact bg (d4) | exact bg (d5) | exact bg (q1)); (· exact aR)) | refine rb ?_ | refine nd ?_ | refine dk ?_ | fail)
  exact .f1 (.inl rfl) rfl rfl
theorem neighborsTalk_open {H : Type} {enc : TypeId × Value → H} (W : World) (base : Nat) {v0 v1 v2 : Value} {d0 d1 d2 : DataW H} {p0 p1 p2 : List MemPlace} (hv0 : Value.okWide Tryz.prog W .any base 3 v0)
    (h0 : DataW.Trod enc Tryz.prog W 0 (fun _ => true) true 3 v0 d0 p0) (_hs0 : SizedCl Tryz.prog 3 d0) (hv1 : Value.okWide Tryz.prog W .any base 3 v1)
    (h1 : DataW.Trod enc Tryz.prog W 0 (fun _ => true) true 3 v1 d1 p1) (_hs1 : SizedCl Tryz.prog 3 d1) (hv2 : Value.okWide Tryz.prog W .any base 9 v2)
    (h2 : DataW.Trod enc Tryz.prog W 0 (fun _ => true) true 9 v2 d2 p2) (_hs2 : SizedCl Tryz.prog 9 d2) : Calls Tryz.prog 5 #[v0, v1, v2] W fun e W' => e = .returned (.bool true) ∧ Below W.heap.size W W' := by
  obtain ⟨a, rfl, _, _, ha⟩ := open_int Tryz.underlying3 hv0 h0
  obtain ⟨b, rfl, _, _, hb⟩ := open_int Tryz.underlying3 hv1 h1
  obtain ⟨s, rfl, _, _, hs⟩ := Go.ChangeMaps.open_string Tryz.underlying9 hv2 h2
  exact (neighborsTalk_T a b s (i64_of_wf ha) (i64_of_wf hb)).yes ⟨rfl, rfl, ⟨rfl, hs⟩, trivial⟩
end Go.Proofs.YtmidechdlbcepaaGreat
