import Derived.Test.YtmidechdlbcepaaGreatPack33
import Derived.Test.YtmidechdlbcepaaGreatPack26
import Derived.Test.YtmidechdlbcepaaGreatPack36
import Derived.Test.YtmidechdlbcepaaGreatPack28
set_option linter.unusedSimpArgs false
set_option linter.unusedVariables false
namespace Go.Proofs.YtmidechdlbcepaaGreat
open Go.RowKit
def acQ (r : Rq) : Ac := ⟨1 + pick r.a 6, pick r.b 5, pick r.c 2 == 0, if pick (r.c.tdiv 6) 2 = 0 then pick (r.a.tdiv 6) 30 else 0, if pick (r.c.tdiv 6) 2 = 0 then 16 else 0, if pick (r.c.tdiv 12) 3 = 0 then pick (r.b.tdiv 20) 8 * 4 else 0, if pick (r.c.tdiv 12) 3 = 0 then 14 else 0, pick (r.b.tdiv 5) 4 - 1, decide (pick (r.c.tdiv 2) 3 > 0)⟩
def swQ (r : Rq) : Sw := ⟨1 + pick r.a 6, 1 + pick r.b 3, pick r.c 3 * (100 + pick r.a 6)⟩
def poQ (r : Rq) : Po := ⟨1 + pick r.a 20, 1 + pick r.b 6, 1 + pick r.c 9, 1 + pick r.c 30, pick (r.b.tdiv 6) 4 - 1 + pick (r.a.tdiv 20) 2⟩
def changeOf (r : Rq) : De :=
  if pick r.kind 16 < 3 then { de0 with kind := 1, sw := swQ r }
  else if pick r.kind 16 < 10 then { de0 with kind := 2, po := poQ r }
  else if pick r.kind 16 < 12 then { de0 with kind := 3, ac := acQ r }
  else if pick r.kind 16 = 12 then { de0 with kind := 4, n := 1 + pick r.a 20 }
  else if pick r.kind 16 = 13 then { de0 with kind := 5, n := pick r.a 4 }
  else { de0 with kind := 6, n := 1 + pick r.a 20, m := pick r.b 5 - 1 }
def baseA (k : Nat) : De := { de0 with kind := 1, sw := ⟨1 + (k : Int), 1 + (k : Int) / 3, ([200, 201, 0, 200] : List Int).getD k 0⟩ }
def conf0 : Nat → Cf
  | 0 => cf0
  | k + 1 => stepC (conf0 k) (baseA k)
def confOf (l : List Rq) (m : Nat) : Cf := (l.take m).foldl (fun c r => stepC c (changeOf r)) (conf0 4)
theorem confOf_zero (l : List Rq) : confOf l 0 = conf0 4 := by simp [confOf]
theorem confOf_succ {l : List Rq} {k : Nat} {x : Rq} (hx : l[k]? = some x) : confOf l (k + 1) = stepC (confOf l k) (changeOf x) := by
  unfold confOf
  rw [List.take_add_one, hx, List.foldl_append]
  rfl
theorem confOf_all {l : List Rq} {k m : Nat} (h : k = m ∨ (l.length ≤ k ∧ k ≤ m)) : confOf l m = confOf l k := by
  rcases h with rfl | ⟨h1, h2⟩
  · rfl
  · unfold confOf
    rw [List.take_of_length_le h1, List.take_of_length_le (by omega)]
theorem conf0_ok : ∀ k, CfOk (conf0 k)
  | 0 => .nil
  | k + 1 => (conf0_ok k).step _
theorem foldl_inv {α β : Type} {P : β → Prop} {f : β → α → β} (hf : ∀ b x, P b → P (f b x)) : ∀ (l : List α) (b : β), P b → P (l.foldl f b)
  | [], _, h => h
  | x :: l, b, h => foldl_inv hf l _ (hf b x h)
theorem confOf_ok (l : List Rq) (m : Nat) : CfOk (confOf l m) := foldl_inv (fun c r h => h.step (changeOf r)) _ _ (conf0_ok 4)
def SwSome (c : Cf) : Prop := hasSw c.ss 1 ∧ (∀ s ∈ c.ss, s.id ≤ 6) ∧ ∀ p ∈ c.ps, p.id ≤ 20 ∧ p.mac ≤ 9
theorem conf0_1 : conf0 1 = ⟨[⟨1, 1, 200⟩], [], []⟩ := by rfl
theorem stepC_ss (c : Cf) (a : De) : (stepC c a).ss = c.ss ∨ (a.kind = 1 ∧ (stepC c a).ss = c.ss ++ [a.sw]) := by
  unfold stepC
  split
  · rename_i h0
    rw [applyR_ok h0]
    unfold applyC
    by_cases k1 : a.kind = 1
    · rw [if_pos k1]
      exact .inr ⟨k1, rfl⟩
    · left
      rw [if_neg k1]
      repeat' split
      all_goals rfl
  · exact .inl rfl
theorem stepC_ps {c : Cf} {a : De} {p : Po} (h : p ∈ (stepC c a).ps) : p ∈ c.ps ∨ (a.kind = 2 ∧ p = a.po) ∨ ∃ q ∈ c.ps, p = { q with ch := a.m } := by
  unfold stepC at h
  split at h
  · rename_i h0
    rw [applyR_ok h0] at h
    unfold applyC at h
    by_cases k1 : a.kind = 1
    · rw [if_pos k1] at h
      exact .inl h
    rw [if_neg k1] at h
    by_cases k2 : a.kind = 2
    · rw [if_pos k2] at h
      rcases List.mem_append.1 h with h | h
      · exact .inl h
      · exact .inr (.inl ⟨k2, List.mem_singleton.1 h⟩)
    rw [if_neg k2] at h
    by_cases k3 : a.kind = 3
    · rw [if_pos k3] at h
      exact .inl h
    rw [if_neg k3] at h
    by_cases k4 : a.kind = 4
    · rw [if_pos k4] at h
      exact .inl ((List.eraseIdx_sublist _ _).mem h)
    rw [if_neg k4] at h
    by_cases k6 : a.kind = 6
    · rw [if_pos k6] at h
      rcases mem_modify h with h | h
      · exact .inl h
      · exact .inr (.inr h)
    rw [if_neg k6] at h
    exact .inl h
  · exact .inl h
theorem changeOf_sw (r : Rq) (h : (changeOf r).kind = 1) : (changeOf r).sw = swQ r := by
  unfold changeOf at h ⊢
  repeat' split
  all_goals first | rfl | (exfalso; simp_all)
theorem changeOf_po (r : Rq) (h : (changeOf r).kind = 2) : (changeOf r).po = poQ r := by
  unfold changeOf at h ⊢
  repeat' split
  all_goals first | rfl | (exfalso; simp_all)
theorem SwSome.step {c : Cf} (h : SwSome c) {a : De} (h1 : a.kind = 1 → a.sw.id ≤ 6) (h2 : a.kind = 2 → a.po.id ≤ 20 ∧ a.po.mac ≤ 9) : SwSome (stepC c a) := by
  obtain ⟨g1, g2, g3⟩ := h
  refine ⟨?_, ?_, fun p hp => ?_⟩
  · rcases stepC_ss c a with e | ⟨_, e⟩ <;> rw [e]
    · exact g1
    · exact hasSw_app g1
  · rcases stepC_ss c a with e | ⟨k, e⟩ <;> rw [e]
    · exact g2
    · intro s hs
      rcases List.mem_append.1 hs with hs | hs
      · exact g2 s hs
      · obtain rfl := List.mem_singleton.1 hs
        exact h1 k
  · rcases stepC_ps hp with hp | ⟨k, rfl⟩ | ⟨q, hq, rfl⟩
    · exact g3 p hp
    · exact h2 k
    · exact g3 q hq
theorem conf0_some : ∀ k, 1 ≤ k → k ≤ 4 → SwSome (conf0 k) ∧ (conf0 k).ps = []
  | 1, _, _ => by
    rw [conf0_1]
    exact ⟨⟨⟨⟨1, 1, 200⟩, by simp, rfl⟩, by simp, by simp⟩, rfl⟩
  | k + 2, _, h => by
    obtain ⟨h1, h2⟩ := conf0_some (k + 1) (by omega) (by omega)
    refine ⟨SwSome.step h1 (fun _ => by show 1 + ((k + 1 : Nat) : Int) ≤ 6; omega) (fun e => by cases e), ?_⟩
    show (stepC _ _).ps = []
    apply List.eq_nil_iff_forall_not_mem.2
    intro p hp
    rcases stepC_ps hp with hp | ⟨e, _⟩ | ⟨q, hq, _⟩
    · rw [h2] at hp; cases hp
    · cases e
    · rw [h2] at hq; cases hq
theorem confOf_some (l : List Rq) (m : Nat) : SwSome (confOf l m) :=
  foldl_inv (P := SwSome) (fun c r h => h.step (fun k => by
    rw [changeOf_sw r k]
    have := pick_le (n := r.a) (m := 6) (by omega)
    show 1 + pick r.a 6 ≤ 6
    omega) (fun k => by
    rw [changeOf_po r k]
    have := pick_le (n := r.a) (m := 20) (by omega)
    have := pick_le (n := r.c) (m := 9) (by omega)
    show 1 + pick r.a 20 ≤ 20 ∧ 1 + pick r.c 9 ≤ 9
    omega)) _ _ (conf0_some 4 (by omega) (by omega)).1
end Go.Proofs.YtmidechdlbcepaaGreat
namespace Go.Proofs.YtmidechdlbcepaaGreat
open Go.RowKit
set_option maxRecDepth 100000
theorem mul_bd {a b m n : Int} (h1 : 0 ≤ a ∧ a ≤ m) (h2 : 0 ≤ b ∧ b ≤ n) : 0 ≤ a * b ∧ a * b ≤ m * n := by
  refine ⟨Int.mul_nonneg h1.1 h2.1, ?_⟩
  exact Int.mul_le_mul h1.2 h2.2 h2.1 (by omega)
set_option maxHeartbeats 8000000 in
theorem change_T (r : Rq) (ho : r.Ok) : Fun Tryz.prog 59 [.agg ((encRq r).map .fv)] (.agg ((encDe (changeOf r)).map .fv)) := by
  obtain ⟨o1, o2, o3, o4⟩ := ho
  have n1 := o1
  have n2 := o2
  have n3 := o3
  have n4 := o4
  unfold N64 at n1 n2 n3 n4
  have qb5 := quoT_bd o3 (m := 5) (by omega)
  have qb6 := quoT_bd o3 (m := 6) (by omega)
  have qb20 := quoT_bd o3 (m := 20) (by omega)
  have qa6 := quoT_bd o2 (m := 6) (by omega)
  have qa20 := quoT_bd o2 (m := 20) (by omega)
  have qc2 := quoT_bd o4 (m := 2) (by omega)
  have qc6 := quoT_bd o4 (m := 6) (by omega)
  have qc12 := quoT_bd o4 (m := 12) (by omega)
  have pa6 := pick_le (n := r.a) (m := 6) (by omega)
  have pa20 := pick_le (n := r.a) (m := 20) (by omega)
  have pb3 := pick_le (n := r.b) (m := 3) (by omega)
  have pb5 := pick_le (n := r.b) (m := 5) (by omega)
  have pb6 := pick_le (n := r.b) (m := 6) (by omega)
  have pc3 := pick_le (n := r.c) (m := 3) (by omega)
  have pc9 := pick_le (n := r.c) (m := 9) (by omega)
  have pc30 := pick_le (n := r.c) (m := 30) (by omega)
  have pq1 := pick_le (n := r.b.tdiv 6) (m := 4) (by omega)
  have pq2 := pick_le (n := r.a.tdiv 20) (m := 2) (by omega)
  have pq3 := pick_le (n := r.b.tdiv 5) (m := 4) (by omega)
  have pq4 := pick_le (n := r.b.tdiv 20) (m := 8) (by omega)
  have hmul := mul_bd (a := pick r.c 3) (b := 100 + pick r.a 6) (m := 2) (n := 105) (by omega) (by omega)
  have hm1 : -9223372036854775808 ≤ pick r.c 3 * (100 + pick r.a 6) := by omega
  have hm2 : pick r.c 3 * (100 + pick r.a 6) ≤ 9223372036854775807 := by omega
  clear hmul
  have hck := picked_T r.kind 16 n1.1 n1.2 (by omega)
  have e0 : changeOf r = if pick r.kind 16 < 3 then { de0 with kind := 1, sw := swQ r }
    else if pick r.kind 16 < 10 then { de0 with kind := 2, po := poQ r }
    else if pick r.kind 16 < 12 then { de0 with kind := 3, ac := acQ r }
    else if pick r.kind 16 = 12 then { de0 with kind := 4, n := 1 + pick r.a 20 }
    else if pick r.kind 16 = 13 then { de0 with kind := 5, n := pick r.a 4 }
    else { de0 with kind := 6, n := 1 + pick r.a 20, m := pick r.b 5 - 1 } := rfl
  generalize changeOf r = D at *
  generalize pick r.kind 16 = k at *
  refine Fun.body tbl_ok Tryz.func59 rfl (by kernel_rfl) rfl rfl rfl ?_
  by_cases h3 : k < 3
  · rw [if_pos h3] at e0
    subst e0
    repeat' (first | (apply X.loE; (· exact aR); (· first | (refine .eff (.mul64 rfl rfl ?_ ?_) <;> assumption) | exact .callL rfl rfl rfl (by first | exact hck | exact (picked_T _ _ (by omega) (by omega) (by omega))) rfl | exact bl (hck) | exact bl ((picked_T _ _ (by omega) (by omega) (by omega))))) | refine X.loc ?_ | refine nx ?_ | refine X.cdT ?_ | refine X.cdF ?_ | refine cb ?_ ?_ | (refine cc ?_ ?_ <;> intro hcond) | (apply X.gsE; (· exact aR); (· exact aV); (· exact aW); (· intro hc; first | (refine .eff (.mul64 rfl rfl ?_ ?_) <;> assumption) | exact .callG rfl rfl rfl (by first | exact hck | exact (picked_T _ _ (by omega) (by omega) (by omega))) rfl | exact bg (hck) | exact bg ((picked_T _ _ (by omega) (by omega) (by omega)))); (· exact aR)) | refine rb ?_ | refine nd ?_ | refine dk ?_ | fail)
    exact .fun (.inl rfl) rfl rfl
  rw [if_neg h3] at e0
  by_cases h10 : k < 10
  · rw [if_pos h10] at e0
    subst e0
    repeat' (first | (apply X.loE; (· exact aR); (· first | (refine .eff (.quoT rfl rfl ?_ ?_) <;> first | assumption | omega) | exact .callL rfl rfl rfl (by first | exact hck | exact (picked_T _ _ (by omega) (by omega) (by omega))) rfl | exact bl (hck) | exact bl ((picked_T _ _ (by omega) (by omega) (by omega))))) | refine X.loc ?_ | refine nx ?_ | refine X.cdT ?_ | refine X.cdF ?_ | refine cb ?_ ?_ | (refine cc ?_ ?_ <;> intro hcond) | (apply X.gsE; (· exact aR); (· exact aV); (· exact aW); (· intro hc; first | (refine .eff (.quoT rfl rfl ?_ ?_) <;> first | assumption | omega) | exact .callG rfl rfl rfl (by first | exact hck | exact (picked_T _ _ (by omega) (by omega) (by omega))) rfl | exact bg (hck) | exact bg ((picked_T _ _ (by omega) (by omega) (by omega)))); (· exact aR)) | refine rb ?_ | refine nd ?_ | refine dk ?_ | fail)
    exact .fun (.inl rfl) rfl rfl
  rw [if_neg h10] at e0
  by_cases h12 : k < 12
  · rw [if_pos h12] at e0
    have e1 : acQ r = ⟨1 + pick r.a 6, pick r.b 5, pick r.c 2 == 0, if pick (r.c.tdiv 6) 2 = 0 then pick (r.a.tdiv 6) 30 else 0, if pick (r.c.tdiv 6) 2 = 0 then 16 else 0, if pick (r.c.tdiv 12) 3 = 0 then pick (r.b.tdiv 20) 8 * 4 else 0, if pick (r.c.tdiv 12) 3 = 0 then 14 else 0, pick (r.b.tdiv 5) 4 - 1, decide (pick (r.c.tdiv 2) 3 > 0)⟩ := rfl
    have c6 := picked_T (r.c.tdiv 6) 2 (by omega) (by omega) (by omega)
    have c12 := picked_T (r.c.tdiv 12) 3 (by omega) (by omega) (by omega)
    generalize acQ r = A at *
    generalize pick (r.c.tdiv 6) 2 = x6 at *
    generalize pick (r.c.tdiv 12) 3 = x12 at *
    by_cases y6 : x6 = 0
    · rw [if_pos y6, if_pos y6] at e1
      by_cases y12 : x12 = 0
      · rw [if_pos y12, if_pos y12] at e1
        subst e1 e0
        repeat' (first | (apply X.loE; (· exact aR); (· first | (refine .eff (.quoT rfl rfl ?_ ?_) <;> first | assumption | omega) | exact .callL rfl rfl rfl (by first | exact hck | exact c6 | exact c12 | exact (picked_T _ _ (by omega) (by omega) (by omega))) rfl | exact bl (hck) | exact bl (c6) | exact bl (c12) | exact bl ((picked_T _ _ (by omega) (by omega) (by omega))))) | refine X.loc ?_ | refine nx ?_ | refine X.cdT ?_ | refine X.cdF ?_ | refine cb ?_ ?_ | (refine cc ?_ ?_ <;> intro hcond) | (apply X.gsE; (· exact aR); (· exact aV); (· exact aW); (· intro hc; first | (refine .eff (.quoT rfl rfl ?_ ?_) <;> first | assumption | omega) | exact .callG rfl rfl rfl (by first | exact hck | exact c6 | exact c12 | exact (picked_T _ _ (by omega) (by omega) (by omega))) rfl | exact bg (hck) | exact bg (c6) | exact bg (c12) | exact bg ((picked_T _ _ (by omega) (by omega) (by omega)))); (· exact aR)) | refine rb ?_ | refine nd ?_ | refine dk ?_ | fail)
        exact .fun (.inl rfl) rfl rfl
      · rw [if_neg y12, if_neg y12] at e1
        subst e1 e0
        repeat' (first | (apply X.loE; (· exact aR); (· first | (refine .eff (.quoT rfl rfl ?_ ?_) <;> first | assumption | omega) | exact .callL rfl rfl rfl (by first | exact hck | exact c6 | exact c12 | exact (picked_T _ _ (by omega) (by omega) (by omega))) rfl | exact bl (hck) | exact bl (c6) | exact bl (c12) | exact bl ((picked_T _ _ (by omega) (by omega) (by omega))))) | refine X.loc ?_ | refine nx ?_ | refine X.cdT ?_ | refine X.cdF ?_ | refine cb ?_ ?_ | (refine cc ?_ ?_ <;> intro hcond) | (apply X.gsE; (· exact aR); (· exact aV); (· exact aW); (· intro hc; first | (refine .eff (.quoT rfl rfl ?_ ?_) <;> first | assumption | omega) | exact .callG rfl rfl rfl (by first | exact hck | exact c6 | exact c12 | exact (picked_T _ _ (by omega) (by omega) (by omega))) rfl | exact bg (hck) | exact bg (c6) | exact bg (c12) | exact bg ((picked_T _ _ (by omega) (by omega) (by omega)))); (· exact aR)) | refine rb ?_ | refine nd ?_ | refine dk ?_ | fail)
        exact .fun (.inl rfl) rfl rfl
    · rw [if_neg y6, if_neg y6] at e1
      by_cases y12 : x12 = 0
      · rw [if_pos y12, if_pos y12] at e1
        subst e1 e0
        repeat' (first | (apply X.loE; (· exact aR); (· first | (refine .eff (.quoT rfl rfl ?_ ?_) <;> first | assumption | omega) | exact .callL rfl rfl rfl (by first | exact hck | exact c6 | exact c12 | exact (picked_T _ _ (by omega) (by omega) (by omega))) rfl | exact bl (hck) | exact bl (c6) | exact bl (c12) | exact bl ((picked_T _ _ (by omega) (by omega) (by omega))))) | refine X.loc ?_ | refine nx ?_ | refine X.cdT ?_ | refine X.cdF ?_ | refine cb ?_ ?_ | (refine cc ?_ ?_ <;> intro hcond) | (apply X.gsE; (· exact aR); (· exact aV); (· exact aW); (· intro hc; first | (refine .eff (.quoT rfl rfl ?_ ?_) <;> first | assumption | omega) | exact .callG rfl rfl rfl (by first | exact hck | exact c6 | exact c12 | exact (picked_T _ _ (by omega) (by omega) (by omega))) rfl | exact bg (hck) | exact bg (c6) | exact bg (c12) | exact bg ((picked_T _ _ (by omega) (by omega) (by omega)))); (· exact aR)) | refine rb ?_ | refine nd ?_ | refine dk ?_ | fail)
        exact .fun (.inl rfl) rfl rfl
      · rw [if_neg y12, if_neg y12] at e1
        subst e1 e0
        repeat' (first | (apply X.loE; (· exact aR); (· first | (refine .eff (.quoT rfl rfl ?_ ?_) <;> first | assumption | omega) | exact .callL rfl rfl rfl (by first | exact hck | exact c6 | exact c12 | exact (picked_T _ _ (by omega) (by omega) (by omega))) rfl | exact bl (hck) | exact bl (c6) | exact bl (c12) | exact bl ((picked_T _ _ (by omega) (by omega) (by omega))))) | refine X.loc ?_ | refine nx ?_ | refine X.cdT ?_ | refine X.cdF ?_ | refine cb ?_ ?_ | (refine cc ?_ ?_ <;> intro hcond) | (apply X.gsE; (· exact aR); (· exact aV); (· exact aW); (· intro hc; first | (refine .eff (.quoT rfl rfl ?_ ?_) <;> first | assumption | omega) | exact .callG rfl rfl rfl (by first | exact hck | exact c6 | exact c12 | exact (picked_T _ _ (by omega) (by omega) (by omega))) rfl | exact bg (hck) | exact bg (c6) | exact bg (c12) | exact bg ((picked_T _ _ (by omega) (by omega) (by omega)))); (· exact aR)) | refine rb ?_ | refine nd ?_ | refine dk ?_ | fail)
        exact .fun (.inl rfl) rfl rfl
  rw [if_neg h12] at e0
  by_cases h4 : k = 12
  · rw [if_pos h4] at e0
    subst e0
    repeat' (first | (apply X.loE; (· exact aR); (· first | exact .callL rfl rfl rfl (by first | exact hck | exact (picked_T _ _ (by omega) (by omega) (by omega))) rfl | exact bl (hck) | exact bl ((picked_T _ _ (by omega) (by omega) (by omega))))) | refine X.loc ?_ | refine nx ?_ | refine X.cdT ?_ | refine X.cdF ?_ | refine cb ?_ ?_ | (refine cc ?_ ?_ <;> intro hcond) | (apply X.gsE; (· exact aR); (· exact aV); (· exact aW); (· intro hc; first | exact .callG rfl rfl rfl (by first | exact hck | exact (picked_T _ _ (by omega) (by omega) (by omega))) rfl | exact bg (hck) | exact bg ((picked_T _ _ (by omega) (by omega) (by omega)))); (· exact aR)) | refine rb ?_ | refine nd ?_ | refine dk ?_ | fail)
    exact .fun (.inl rfl) rfl rfl
  rw [if_neg h4] at e0
  by_cases h5 : k = 13
  · rw [if_pos h5] at e0
    subst e0
    repeat' (first | (apply X.loE; (· exact aR); (· first | exact .callL rfl rfl rfl (by first | exact hck | exact (picked_T _ _ (by omega) (by omega) (by omega))) rfl | exact bl (hck) | exact bl ((picked_T _ _ (by omega) (by omega) (by omega))))) | refine X.loc ?_ | refine nx ?_ | refine X.cdT ?_ | refine X.cdF ?_ | refine cb ?_ ?_ | (refine cc ?_ ?_ <;> intro hcond) | (apply X.gsE; (· exact aR); (· exact aV); (· exact aW); (· intro hc; first | exact .callG rfl rfl rfl (by first | exact hck | exact (picked_T _ _ (by omega) (by omega) (by omega))) rfl | exact bg (hck) | exact bg ((picked_T _ _ (by omega) (by omega) (by omega)))); (· exact aR)) | refine rb ?_ | refine nd ?_ | refine dk ?_ | fail)
    exact .fun (.inl rfl) rfl rfl
  rw [if_neg h5] at e0
  subst e0
  repeat' (first | (apply X.loE; (· exact aR); (· first | exact .callL rfl rfl rfl (by first | exact hck | exact (picked_T _ _ (by omega) (by omega) (by omega))) rfl | exact bl (hck) | exact bl ((picked_T _ _ (by omega) (by omega) (by omega))))) | refine X.loc ?_ | refine nx ?_ | refine X.cdT ?_ | refine X.cdF ?_ | refine cb ?_ ?_ | (refine cc ?_ ?_ <;> intro hcond) | (apply X.gsE; (· exact aR); (· exact aV); (· exact aW); (· intro hc; first | exact .callG rfl rfl rfl (by first | exact hck | exact (picked_T _ _ (by omega) (by omega) (by omega))) rfl | exact bg (hck) | exact bg ((picked_T _ _ (by omega) (by omega) (by omega)))); (· exact aR)) | refine rb ?_ | refine nd ?_ | refine dk ?_ | fail)
  exact .fun (.inl rfl) rfl rfl
theorem CfOk.fit {c : Cf} (h : CfOk c) : c.Fit := by
  have h1 := h.sl
  have h2 := h.pl
  have h3 := h.al
  exact ⟨by omega, by omega, by omega⟩
set_option maxHeartbeats 8000000 in
theorem conf_T (l : List Rq) (m : Nat) (hok : ∀ r ∈ l, r.Ok) (hm : m ≤ 100) : Fun Tryz.prog 29 [.fv (slOf encRq l), .fv (.int .i64 (m : Int))] (.agg ((encCf (confOf l m)).map .fv)) := by
  refine Fun.body tbl_ok Tryz.func29 rfl (by kernel_rfl) rfl rfl rfl ?_
  repeat' (first | refine X.loc ?_ | refine nx ?_ | refine X.cdT ?_ | refine X.cdF ?_ | refine cb ?_ ?_ | (refine cc ?_ ?_ <;> intro hcond) | refine rb ?_ | refine nd ?_ | refine dk ?_ | fail)
  refine WP.loop (ι := Nat) (fun k => ⟨[(0, .fv (slOf encRq l)), (1, .fv (.int .i64 (m : Int))), (4, .optr 4 0), (5, .optr 5 0), (13, .fv (.int .i64 k))], [(4, .box 26 [.nil, .nil, .nil]), (5, .box 26 ((encCf (conf0 k)).map .fv))]⟩) (fun k => k ≤ 4) (fun k => 4 - k) 0 (by omega) ?_ ?_
  · exact tq [] []
  rintro k hk
  try dsimp only
  by_cases hlt : k < 4
  case pos =>
    have hap := apply_T (conf0 k) (baseA k) (conf0_ok k).fit
    have hst : conf0 (k + 1) = if applyE (conf0 k) (baseA k) = 0 then applyR (conf0 k) (baseA k) else conf0 k := rfl
    have hbase : baseA k = { de0 with kind := 1, sw := ⟨1 + (k : Int), 1 + (k : Int) / 3, ([200, 201, 0, 200] : List Int).getD k 0⟩ } := rfl
    generalize applyR (conf0 k) (baseA k) = R at *
    generalize applyE (conf0 k) (baseA k) = e at *
    generalize baseA k = B at *
    generalize conf0 k = C at *
    subst hbase
    by_cases he : e = 0
    · rw [if_pos he] at hst
      subst he
      repeat' (first | (apply X.loE; (· exact aR); (· first | exact .eff (.bsliceFS rfl rfl rfl rfl rfl rfl) | (exact .eff (.idxD (enc := encI) (l := [200, 201, 0, 200]) (0 : Int) rfl rfl rfl (fun _ => rfl) (show 0 ≤ _ ∧ _ < (4 : Int) by omega))) | exact .callL rfl rfl rfl (hap) rfl | exact bl (hap))) | refine X.loc ?_ | refine nx ?_ | refine X.cdT ?_ | refine X.cdF ?_ | refine cb ?_ ?_ | (refine cc ?_ ?_ <;> intro hcond) | (apply X.gsE; (· exact aR); (· exact aV); (· exact aW); (· intro hc; first | exact .eff (.bsliceFS rfl rfl rfl rfl rfl rfl) | (exact .eff (.idxD (enc := encI) (l := [200, 201, 0, 200]) (0 : Int) rfl rfl rfl (fun _ => rfl) (show 0 ≤ _ ∧ _ < (4 : Int) by omega))) | exact .callG rfl rfl rfl (hap) rfl | exact bg (hap)); (· exact aR)) | refine rb ?_ | refine nd ?_ | refine dk ?_ | fail)
      refine ⟨k + 1, by omega, by omega, ?_⟩
      try dsimp only
      rw [hst]
      exact tq [] []
    · rw [if_neg he] at hst
      repeat' (first | (apply X.loE; (· exact aR); (· first | exact .eff (.bsliceFS rfl rfl rfl rfl rfl rfl) | (exact .eff (.idxD (enc := encI) (l := [200, 201, 0, 200]) (0 : Int) rfl rfl rfl (fun _ => rfl) (show 0 ≤ _ ∧ _ < (4 : Int) by omega))) | exact .callL rfl rfl rfl (hap) rfl | exact bl (hap))) | refine X.loc ?_ | refine nx ?_ | refine X.cdT ?_ | refine X.cdF ?_ | refine cb ?_ ?_ | (refine cc ?_ ?_ <;> intro hcond) | (apply X.gsE; (· exact aR); (· exact aV); (· exact aW); (· intro hc; first | exact .eff (.bsliceFS rfl rfl rfl rfl rfl rfl) | (exact .eff (.idxD (enc := encI) (l := [200, 201, 0, 200]) (0 : Int) rfl rfl rfl (fun _ => rfl) (show 0 ≤ _ ∧ _ < (4 : Int) by omega))) | exact .callG rfl rfl rfl (hap) rfl | exact bg (hap)); (· exact aR)) | refine rb ?_ | refine nd ?_ | refine dk ?_ | fail)
      refine ⟨k + 1, by omega, by omega, ?_⟩
      try dsimp only
      rw [hst]
      exact tq [] []
  case neg =>
    obtain rfl : k = 4 := by omega
    have h0 := confOf_zero l
    generalize conf0 4 = C0 at *
    repeat' (first | refine X.loc ?_ | refine nx ?_ | refine X.cdT ?_ | refine X.cdF ?_ | refine cb ?_ ?_ | (refine cc ?_ ?_ <;> intro hcond) | refine rb ?_ | refine nd ?_ | refine dk ?_ | fail)
    refine WP.loop (ι := Nat) (fun k => ⟨[(0, .fv (slOf encRq l)), (1, .fv (.int .i64 (m : Int))), (4, .optr 4 0), (5, .optr 5 0), (9, .fv (.int .i64 k))], [(4, .box 26 [.nil, .nil, .nil]), (5, .box 26 ((encCf (confOf l k)).map .fv))]⟩) (fun k => k ≤ l.length ∧ k ≤ m) (fun k => m - k) 0 (by omega) ?_ ?_
    · rw [h0]
      exact tq [] []
    rintro k ⟨hk, hkm⟩
    try dsimp only
    by_cases hlt : k < l.length ∧ k < m
    case neg =>
      rw [confOf_all (l := l) (k := k) (m := m) (by omega)]
      repeat' (first | refine X.loc ?_ | refine nx ?_ | refine X.cdT ?_ | refine X.cdF ?_ | refine cb ?_ ?_ | (refine cc ?_ ?_ <;> intro hcond) | refine rb ?_ | refine nd ?_ | refine dk ?_ | fail)
      exact .fun (.inl rfl) rfl rfl
    case pos =>
      obtain ⟨x, hx⟩ : ∃ x, l[k]? = some x := ⟨_, List.getElem?_eq_getElem hlt.1⟩
      have hch := change_T x (hok x (List.mem_of_getElem? hx))
      have hap := apply_T (confOf l k) (changeOf x) (confOf_ok l k).fit
      have hst : confOf l (k + 1) = if applyE (confOf l k) (changeOf x) = 0 then applyR (confOf l k) (changeOf x) else confOf l k := confOf_succ hx
      generalize applyR (confOf l k) (changeOf x) = R at *
      generalize applyE (confOf l k) (changeOf x) = e at *
      generalize changeOf x = B at *
      generalize confOf l k = C at *
      by_cases he : e = 0
      · rw [if_pos he] at hst
        subst he
        repeat' (first | (apply X.loE; (· exact aR); (· first | exact .callL rfl rfl rfl (by first | exact hap | exact hch) rfl | exact bl (hap) | exact bl (hch))) | refine X.loc ?_ | refine nx ?_ | refine X.cdT ?_ | refine X.cdF ?_ | refine cb ?_ ?_ | (refine cc ?_ ?_ <;> intro hcond) | (apply X.gsE; (· exact aR); (· exact aV); (· exact aW); (· intro hc; first | exact .callG rfl rfl rfl (by first | exact hap | exact hch) rfl | exact bg (hap) | exact bg (hch)); (· exact aR)) | refine rb ?_ | refine nd ?_ | refine dk ?_ | fail)
        refine ⟨k + 1, by omega, by omega, ?_⟩
        try dsimp only
        rw [hst]
        exact tq [] []
      · rw [if_neg he] at hst
        repeat' (first | (apply X.loE; (· exact aR); (· first | exact .callL rfl rfl rfl (by first | exact hap | exact hch) rfl | exact bl (hap) | exact bl (hch))) | refine X.loc ?_ | refine nx ?_ | refine X.cdT ?_ | refine X.cdF ?_ | refine cb ?_ ?_ | (refine cc ?_ ?_ <;> intro hcond) | (apply X.gsE; (· exact aR); (· exact aV); (· exact aW); (· intro hc; first | exact .callG rfl rfl rfl (by first | exact hap | exact hch) rfl | exact bg (hap) | exact bg (hch)); (· exact aR)) | refine rb ?_ | refine nd ?_ | refine dk ?_ | fail)
        refine ⟨k + 1, by omega, by omega, ?_⟩
        try dsimp only
        rw [hst]
        exact tq [] []
end Go.Proofs.YtmidechdlbcepaaGreat
namespace Go.Proofs.YtmidechdlbcepaaGreat
open Go.ChangeShapes Go.WideShapes Go.ChangeAt Go.RowKit Go.Deep
set_option maxRecDepth 100000
section
variable {H : Type} {enc : TypeId × Value → H} {P : Program} {w : World} {base : Nat} {spare : Nat → Bool} {held : Bool} {Cl : TypeId → DataW H → Prop}
theorem rep_agg {σ : Nat → Value} {fs : List FV} {cs : List Value} (h : RepF w fs cs) : (AV.agg (fs.map .fv)).Rep σ (fun b => b < w.heap.size) w (.agg cs.toArray) := ⟨_, rfl, by simpa using h σ⟩
end
def rawLeaves : List Leaf := [.int, .int, .int, .int]
theorem raw_leaves : leaves Tryz.prog 2 59 = some rawLeaves := by kernel_rfl
theorem raw_leaves3 : leaves Tryz.prog 3 59 = some rawLeaves := by kernel_rfl
theorem raw_cellsOf : Tryz.prog.cellsOf 59 = 4 := by kernel_rfl
theorem raw_bytes : Tryz.prog.bytesOf 59 = 32 := by kernel_rfl
section
variable {H : Type} {enc : TypeId × Value → H} {P : Program} {w : World} {base : Nat} {spare : Nat → Bool} {held : Bool} {Cl : TypeId → DataW H → Prop}
theorem raw_rep {cs : List Value} (h : AllOk enc P w base spare held Cl rawLeaves cs) : ∃ r : Rq, r.Ok ∧ RepF w (encRq r) cs := by
  match cs, h.length with
  | [c0, c1, c2, c3], _ =>
    obtain ⟨⟨a0, rfl, b0⟩, ⟨a1, rfl, b1⟩, ⟨a2, rfl, b2⟩, ⟨a3, rfl, b3⟩, _⟩ := h
    exact ⟨⟨a0, a1, a2, a3⟩, ⟨b0, b1, b2, b3⟩, fun _ => ⟨rfl, rfl, rfl, rfl, trivial⟩⟩
theorem open_raws {v : Value} {d : DataW H} {p : List MemPlace} {r : Reach} {b0 : Nat} (hv : Value.okWide Tryz.prog w r b0 57 v) (h : DataW.Trod enc Tryz.prog w base spare held 57 v d p) (hs : SizedCl Tryz.prog 57 d) :
    ∃ l : List Rq, (∀ x ∈ l, x.Ok) ∧ l.length * 32 ≤ reachBytes ∧ (slOf encRq l).Rep (fun b => b < w.heap.size) w v :=
  open_sl_arg Tryz.underlying57 raw_leaves raw_cellsOf rfl (by omega) raw_bytes (fun _ h => raw_rep h) hv h hs
theorem open_raw {r : Reach} {b0 : Nat} {v : Value} {d : DataW H} {p : List MemPlace} (hv : Value.okWide Tryz.prog w r b0 59 v) (h : DataW.Trod enc Tryz.prog w base spare held 59 v d p) :
    ∃ a : Rq, a.Ok ∧ ∃ cs : List Value, v = .agg cs.toArray ∧ RepF w (encRq a) cs := by
  obtain ⟨cs, rfl, hcs⟩ := open_struct Tryz.underlying59 raw_leaves3 hv h
  obtain ⟨a, ho, ha⟩ := raw_rep hcs
  exact ⟨a, ho, cs, rfl, ha⟩
end
end Go.Proofs.YtmidechdlbcepaaGreat