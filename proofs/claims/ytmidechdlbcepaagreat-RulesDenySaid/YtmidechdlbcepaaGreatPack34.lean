import Derived.Test.YtmidechdlbcepaaGreatPack33
import Derived.Test.YtmidechdlbcepaaGreatPack27
import Derived.Test.YtmidechdlbcepaaGreatPack26
import Derived.Test.YtmidechdlbcepaaGreatPack23
set_option linter.unusedSimpArgs false
set_option linter.unusedVariables false
namespace Go.Proofs.YtmidechdlbcepaaGreat
open Go.ChangeShapes Go.WideShapes Go.ChangeAt Go.RowKit
set_option maxRecDepth 100000

theorem allow_one {c : Cf} {x : Ac} (h : c.acs = [x]) (net : Int) (inn : Bool) (src dst port : Int) : allowB c net inn src dst port = !(asksB net inn src dst port x && x.deny) := by
  rw [allow_best, h]
  cases hx : asksB net inn src dst port x <;> simp [bstA, hx]
theorem allow_two {c : Cf} {x y : Ac} (h : c.acs = [x, y]) (net : Int) (inn : Bool) (src dst port : Int) (hx : asksB net inn src dst port x = true) (hy : asksB net inn src dst port y = true) : allowB c net inn src dst port = if x.prio < y.prio then !y.deny else !x.deny := by
  rw [allow_best, h]
  by_cases hp : x.prio < y.prio <;> simp [bstA, hx, hy, prioA, hp]
theorem allow_none {c : Cf} {net : Int} {inn : Bool} {src dst port : Int} (h : ∀ x ∈ c.acs, x.inn = !inn) : allowB c net inn src dst port = true := by
  unfold allowB ofKind
  rw [List.filter_eq_nil_iff.2 fun x hx => by rw [h x hx]; cases inn <;> simp]
  simp [sortA]
def sN (n : Int) : Int := bits .and .i64 51 (bits .andNot .i64 65535 (65535 / 2 ^ n.toNat))
theorem sN_ok (n : Int) (h : 0 ≤ n ∧ n ≤ 16) : (0 ≤ sN n ∧ sN n ≤ 65535) ∧ sN n % unitOf n = 0 ∧ 51 / unitOf n = sN n / unitOf n := by
  have : ∀ k : Fin 17, (0 ≤ sN (k.val : Int) ∧ sN (k.val : Int) ≤ 65535) ∧ sN (k.val : Int) % unitOf (k.val : Int) = 0 ∧ 51 / unitOf (k.val : Int) = sN (k.val : Int) / unitOf (k.val : Int) := by decide
  obtain ⟨k, rfl⟩ := Int.eq_ofNat_of_zero_le h.1
  exact this ⟨k, by omega⟩
def dA (inn : Bool) (n : Int) : Ac := ⟨1, 5, inn, sN n, n, 0, 0, -1, true⟩
def lA (inn : Bool) (p : Int) : Ac := ⟨1, p, inn, 0, 0, 0, 0, 80, false⟩
def rF : Fr := ⟨12, 11, 3, 51, 52, 0, 80, ⟨#[]⟩⟩
theorem rF_ok : frameFault rF = 0 := by decide
theorem dA_asks {inn : Bool} {n : Int} (h : 0 ≤ n ∧ n ≤ 16) : asksB 1 inn 51 52 80 (dA inn n) = true := by
  obtain ⟨_, _, h3⟩ := sN_ok n h
  unfold asksB ruleFit dA
  dsimp only
  have e : (52 : Int) / unitOf 0 = 0 := by decide
  rw [h3, e]
  simp
theorem lA_asks {inn : Bool} {p : Int} : asksB 1 inn 51 52 80 (lA inn p) = true := by
  unfold asksB ruleFit lA
  simp [unitOf]
theorem deny_all {a b : Int} (ha : 0 ≤ a ∧ a ≤ 5) (hb : 0 ≤ b ∧ b ≤ 5) (inn : Bool) {n : Int} (hn : 0 ≤ n ∧ n ≤ 16) :
    (delE (twoG 1 60 a b [dA inn n]) 1 rF = 0 ∧ delR (twoG 1 60 a b [dA inn n]) 1 rF = [] ∧ CfOk (twoG 1 60 a b [dA inn n])) ∧
    (delE (twoG 1 60 a b [dA inn n, lA inn 6]) 1 rF = 0 ∧ delR (twoG 1 60 a b [dA inn n, lA inn 6]) 1 rF = [⟨2, rF⟩] ∧ CfOk (twoG 1 60 a b [dA inn n, lA inn 6])) ∧
    (delE (twoG 1 60 a b [dA inn n, lA inn 5]) 1 rF = 0 ∧ delR (twoG 1 60 a b [dA inn n, lA inn 5]) 1 rF = [] ∧ CfOk (twoG 1 60 a b [dA inn n, lA inn 5])) := by
  obtain ⟨s1, s2, s3⟩ := sN_ok n hn
  have rd : AcR (dA inn n) := ⟨⟨by show (0 : Int) ≤ 5 ∧ (5 : Int) ≤ 1000; omega, s1, by show (0 : Int) ≤ 0 ∧ (0 : Int) ≤ 65535; omega, hn, by show (0 : Int) ≤ 0 ∧ (0 : Int) ≤ 16; omega, by show (-1 : Int) ≤ -1 ∧ (-1 : Int) ≤ 65535; omega⟩, s2, by show (0 : Int) % _ = 0; simp⟩
  have rl : ∀ p : Int, 0 ≤ p ∧ p ≤ 1000 → AcR (lA inn p) := fun p hp => ⟨⟨hp, by show (0 : Int) ≤ 0 ∧ (0 : Int) ≤ 65535; omega, by show (0 : Int) ≤ 0 ∧ (0 : Int) ≤ 65535; omega, by show (0 : Int) ≤ 0 ∧ (0 : Int) ≤ 16; omega, by show (0 : Int) ≤ 0 ∧ (0 : Int) ≤ 16; omega, by show (-1 : Int) ≤ 80 ∧ (80 : Int) ≤ 65535; omega⟩, by show (0 : Int) % _ = 0; simp, by show (0 : Int) % _ = 0; simp⟩
  have ok : ∀ l : List Ac, l.length ≤ 40 → (∀ x ∈ l, AcR x ∧ x.sw = 1) → CfOk (twoG 1 60 a b l) := fun l h1 h2 => two_ok (by omega) (by omega) (by omega) (by omega) (by omega) h1 h2
  have o1 := ok [dA inn n] (by simp) (by intro x hx; simp only [List.mem_cons, List.not_mem_nil, or_false] at hx; rcases hx with rfl; exact ⟨rd, rfl⟩)
  have o2 : ∀ p : Int, 0 ≤ p ∧ p ≤ 1000 → CfOk (twoG 1 60 a b [dA inn n, lA inn p]) := fun p hp => ok _ (by simp) (by intro x hx; simp only [List.mem_cons, List.not_mem_nil, or_false] at hx; rcases hx with rfl | rfl; exact ⟨rd, rfl⟩; exact ⟨rl p hp, rfl⟩)
  have hd := dA_asks (inn := inn) hn
  have hl := fun p => lA_asks (inn := inn) (p := p)
  have arr0 : ∀ l, allowB (twoG 1 60 a b l) 1 inn 51 52 80 = false → (∀ x ∈ l, x.inn = inn) → (ledF (twoG 1 60 a b l) a 1 rF).flatMap (arrC (twoG 1 60 a b l)) = [] := fun l h hi => by
    cases inn with
    | true => rw [two_denied rF rfl h]; rfl
    | false =>
      rw [two_data rF rfl rfl rfl (allow_none fun x hx => hi x hx) ha.1 hb.1, if_neg (fun h => by have := h.1; simp [rF] at this), if_pos (.inr rfl), if_neg (fun h => by have := h.1; simp [rF] at this), if_neg (fun h => by have := h.1; simp [rF] at this)]
      simp only [List.nil_append, List.append_nil, List.flatMap_cons, List.flatMap_nil]
      exact two_arr2d rF rfl h
  have arr1 : ∀ l, allowB (twoG 1 60 a b l) 1 inn 51 52 80 = true → (∀ x ∈ l, x.inn = inn) → (ledF (twoG 1 60 a b l) a 1 rF).flatMap (arrC (twoG 1 60 a b l)) = [⟨2, rF⟩] := fun l h hi => by
    have both : ∀ i, allowB (twoG 1 60 a b l) 1 i 51 52 80 = true := fun i => by
      by_cases e : i = inn
      · rw [e]; exact h
      · exact allow_none fun x hx => by rw [hi x hx]; cases i <;> cases inn <;> simp_all
    rw [two_data rF rfl rfl rfl (both true) ha.1 hb.1, if_neg (fun h => by have := h.1; simp [rF] at this), if_pos (.inr rfl), if_neg (fun h => by have := h.1; simp [rF] at this), if_neg (fun h => by have := h.1; simp [rF] at this)]
    simp only [List.nil_append, List.append_nil, List.flatMap_cons, List.flatMap_nil]
    rw [two_arr2 rF (.inr (both false))]
  have i1 : ∀ x ∈ [dA inn n], x.inn = inn := by intro x hx; simp only [List.mem_cons, List.not_mem_nil, or_false] at hx; rcases hx with rfl; rfl
  have i2 : ∀ p, ∀ x ∈ [dA inn n, lA inn p], x.inn = inn := by intro p x hx; simp only [List.mem_cons, List.not_mem_nil, or_false] at hx; rcases hx with rfl | rfl <;> rfl
  refine ⟨?_, ?_, ?_⟩
  · obtain ⟨k1, k2⟩ := del_is o1 two_at1 ha.1 rF_ok
    refine ⟨k1, ?_, o1⟩
    rw [k2, arr0 _ (by rw [allow_one rfl, hd]; rfl) i1]
    exact sort_nil
  · obtain ⟨k1, k2⟩ := del_is (o2 6 (by omega)) two_at1 ha.1 rF_ok
    refine ⟨k1, ?_, o2 6 (by omega)⟩
    rw [k2, arr1 _ (by rw [allow_two rfl 1 inn 51 52 80 hd (hl 6), if_pos (show (dA inn n).prio < (lA inn 6).prio from (by decide : (5 : Int) < 6))]; rfl) (i2 6)]
    exact sort_one _
  · obtain ⟨k1, k2⟩ := del_is (o2 5 (by omega)) two_at1 ha.1 rF_ok
    refine ⟨k1, ?_, o2 5 (by omega)⟩
    rw [k2, arr0 _ (by rw [allow_two rfl 1 inn 51 52 80 hd (hl 5), if_neg (show ¬ (dA inn n).prio < (lA inn 5).prio from (by decide : ¬ (5 : Int) < 5))]; rfl) (i2 5)]
    exact sort_nil
set_option maxHeartbeats 8000000 in
theorem rulesDeny_T (a b : Int) (inn : Bool) (m : Int) (ha : N64 a) (hb : N64 b) (hm : N64 m) : Fun Tryz.prog 4 [.fv (.int .i64 a), .fv (.int .i64 b), .fv (.bool inn), .fv (.int .i64 m)] (.fv (.bool true)) := by
  have p1 := picked_T a 6 ha.1 ha.2 (by omega)
  have p2 := picked_T b 6 hb.1 hb.2 (by omega)
  have p3 := picked_T m 17 hm.1 hm.2 (by omega)
  have h1 := pick_le (n := a) (m := 6) (by omega)
  have h2 := pick_le (n := b) (m := 6) (by omega)
  have h3 := pick_le (n := m) (m := 17) (by omega)
  generalize pick a 6 = x at *
  generalize pick b 6 = y at *
  generalize pick m 17 = n at *
  have c1 := two_of_T x y
  obtain ⟨⟨e1, r1, o1⟩, ⟨e2, r2, o2⟩, ⟨e3, r3, o3⟩⟩ := deny_all (a := x) (b := y) (by omega) (by omega) inn (n := n) (by omega)
  have d1 := deliver0_T (twoG 1 60 x y [dA inn n]) 1 rF o1.small
  rw [e1, r1] at d1
  have d2 := deliver0_T (twoG 1 60 x y [dA inn n, lA inn 6]) 1 rF o2.small
  rw [e2, r2] at d2
  have d3 := deliver0_T (twoG 1 60 x y [dA inn n, lA inn 5]) 1 rF o3.small
  rw [e3, r3] at d3
  clear e1 r1 o1 e2 r2 o2 e3 r3 o3
  have hn64 : n ≤ (IntKind.i64).bits := by show n ≤ 64; omega
  refine Fun.body tbl_ok Tryz.func4 rfl (by kernel_rfl) rfl rfl rfl ?_
  repeat' (first | (apply X.loE; (· exact aR); (· first | (exact .eff (.shr rfl rfl (by omega) hn64)) | exact .callL rfl rfl rfl (by first | exact p1 | exact p2 | exact p3 | exact c1) rfl | exact bl (p1) | exact bl (p2) | exact bl (p3) | exact bl (c1))) | refine X.loc ?_ | refine nx ?_ | refine X.cdT ?_ | refine X.cdF ?_ | (refine WP.condBit rfl ?_ ?_) | (refine WP.cond rfl ?_ ?_ <;> intro hcond) | (apply X.gsE; (· exact aR); (· exact aV); (· exact aW); (· intro hc; first | (exact .eff (.shr rfl rfl (by omega) hn64)) | exact .callG rfl rfl rfl (by first | exact p1 | exact p2 | exact p3 | exact c1) rfl | exact bg (p1) | exact bg (p2) | exact bg (p3) | exact bg (c1)); (· exact aR)) | refine rb ?_ | refine X.c1 (d1) ?_ | refine X.c1 (d2) ?_ | refine X.c1 (d3) ?_ | refine nd ?_ | refine dk ?_ | fail)
  exact .f1 (.inl rfl) rfl rfl
theorem rulesDeny_open {H : Type} {enc : TypeId × Value → H} (W : World) (base : Nat) {v0 v1 v2 v3 : Value} {d0 d1 d2 d3 : DataW H} {p0 p1 p2 p3 : List MemPlace} (hv0 : Value.okWide Tryz.prog W .any base 3 v0)
    (h0 : DataW.Trod enc Tryz.prog W 0 (fun _ => true) true 3 v0 d0 p0) (hv1 : Value.okWide Tryz.prog W .any base 3 v1)
    (h1 : DataW.Trod enc Tryz.prog W 0 (fun _ => true) true 3 v1 d1 p1) (hv2 : Value.okWide Tryz.prog W .any base 4 v2)
    (h2 : DataW.Trod enc Tryz.prog W 0 (fun _ => true) true 4 v2 d2 p2) (hv3 : Value.okWide Tryz.prog W .any base 3 v3)
    (h3 : DataW.Trod enc Tryz.prog W 0 (fun _ => true) true 3 v3 d3 p3) : Calls Tryz.prog 4 #[v0, v1, v2, v3] W fun e W' => e = .returned (.bool true) ∧ Below W.heap.size W W' := by
  obtain ⟨a, rfl, _, _, ha⟩ := open_int Tryz.underlying3 hv0 h0
  obtain ⟨b, rfl, _, _, hb⟩ := open_int Tryz.underlying3 hv1 h1
  obtain ⟨c, rfl, _⟩ := open_bool Tryz.underlying4 hv2 h2
  obtain ⟨m, rfl, _, _, hm⟩ := open_int Tryz.underlying3 hv3 h3
  exact (rulesDeny_T a b c m (i64_of_wf ha) (i64_of_wf hb) (i64_of_wf hm)).yes ⟨rfl, rfl, rfl, rfl, trivial⟩
end Go.Proofs.YtmidechdlbcepaaGreat
