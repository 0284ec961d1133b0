import Derived.Test.YtmidechdlbcepaaGreatPack01
import Derived.Test.YtmidechdlbcepaaGreatPack34
import Derived.Test.YtmidechdlbcepaaGreatPack25
import Derived.Test.YtmidechdlbcepaaGreatPack29
import Derived.Test.YtmidechdlbcepaaGreatPack35
set_option linter.unusedSimpArgs false
set_option linter.unusedVariables false
namespace Go.Proofs.YtmidechdlbcepaaGreat
open Go.RowKit Go.Shelf Go.Lib Go.Sort
set_option maxRecDepth 100000
structure El (σ : Nat → Value) (Z : Nat → Prop) (w : World) where
  f : Fl
  vs : List Value
  len : vs.length = 4
  rep : AV.RepL σ Z w ((encFl f).map .fv) vs
  fit : f.Fit
section
variable {σ : Nat → Value} {Z : Nat → Prop} {w : World}
theorem els_of : ∀ (l : List Fl) (xs : List Value), (∀ f ∈ l, f.Fit) → AV.RepL σ Z w ((l.flatMap encFl).map .fv) xs → ∃ ds : List (El σ Z w), ds.map El.f = l ∧ ds.flatMap El.vs = xs
  | [], [], _, _ => ⟨[], rfl, rfl⟩
  | [], _ :: _, _, h => h.elim
  | f :: l, xs, hf, h => by
    have h1 := h.take 4
    have h2 := h.drop 4
    rw [List.flatMap_cons, List.map_append] at h1 h2
    have e1 : (((encFl f).map AV.fv) ++ (l.flatMap encFl).map AV.fv).take 4 = (encFl f).map .fv := by rw [List.take_append_of_le_length (by simp [encFl])]; rfl
    have e2 : (((encFl f).map AV.fv) ++ (l.flatMap encFl).map AV.fv).drop 4 = (l.flatMap encFl).map .fv := by rw [List.drop_append_of_le_length (by simp [encFl])]; rfl
    rw [e1] at h1
    rw [e2] at h2
    obtain ⟨ds, h3, h4⟩ := els_of l (xs.drop 4) (fun g hg => hf g (by simp [hg])) h2
    refine ⟨⟨f, xs.take 4, by simpa [encFl] using h1.length, h1, hf f (by simp)⟩ :: ds, by simp [h3], ?_⟩
    rw [List.flatMap_cons, h4]
    exact List.take_append_drop 4 xs
theorem els_rep : ∀ ds : List (El σ Z w), AV.RepL σ Z w (((ds.map El.f).flatMap encFl).map .fv) (ds.flatMap El.vs)
  | [] => trivial
  | d :: ds => by
    rw [List.map_cons, List.flatMap_cons, List.map_append, List.flatMap_cons]
    exact d.rep.append (els_rep ds)
end
theorem flat_at {α : Type} {enc : α → List Value} {k : Nat} (hk : ∀ x, (enc x).length = k) : ∀ (l : List α) (t : Nat), t < l.length * k → ∃ x, l[t / k]? = some x ∧ (l.flatMap enc)[t]? = (enc x)[t % k]?
  | [], t, h => by simp at h
  | x :: l, t, h => by
    have hk0 : 0 < k := by
      rcases Nat.eq_zero_or_pos k with h0 | h0
      · rw [h0, Nat.mul_zero] at h; omega
      · exact h0
    rw [List.flatMap_cons]
    rcases Nat.lt_or_ge t k with h1 | h1
    · refine ⟨x, by rw [Nat.div_eq_of_lt h1]; rfl, ?_⟩
      rw [List.getElem?_append_left (by rw [hk]; exact h1), Nat.mod_eq_of_lt h1]
    · obtain ⟨s, rfl⟩ : ∃ s, t = s + k := ⟨t - k, by omega⟩
      have h2 : s < l.length * k := by rw [List.length_cons, Nat.add_mul, Nat.one_mul] at h; omega
      obtain ⟨y, h3, h4⟩ := flat_at hk l s h2
      refine ⟨y, ?_, ?_⟩
      · rw [Nat.add_div_right _ hk0]
        simpa using h3
      · rw [List.getElem?_append_right (by rw [hk]; exact h1), hk, Nat.add_sub_cancel, h4, Nat.add_mod_right]
theorem flatK_list {α : Type} [Inhabited α] {enc : α → List Value} {k : Nat} (hk : ∀ x, (enc x).length = k) (d : Array α) : (flatK enc k d).toList = d.toList.flatMap enc := by
  have hl : ∀ l : List α, (l.flatMap enc).length = l.length * k := by
    intro l
    induction l with
    | nil => simp
    | cons x l ih => rw [List.flatMap_cons, List.length_append, hk, ih, List.length_cons, Nat.add_mul, Nat.one_mul]; omega
  apply List.ext_getElem?
  intro t
  by_cases ht : t < d.size * k
  · obtain ⟨x, h1, h2⟩ := flat_at hk d.toList t (by simpa using ht)
    rw [h2]
    have hk0 : 0 < k := by
      rcases Nat.eq_zero_or_pos k with h0 | h0
      · rw [h0, Nat.mul_zero] at ht; omega
      · exact h0
    have h3 := get_flatK enc k d t ht
    have hx : d[t / k]! = x := by
      rw [Array.getElem?_toList] at h1
      rw [getElem!_def, h1]
    rw [hx] at h3
    have hm : t % k < (enc x).length := by rw [hk]; exact Nat.mod_lt _ hk0
    rw [getElem!_pos _ t (by rw [size_flatK]; exact ht), getElem!_pos _ (t % k) hm] at h3
    rw [List.getElem?_eq_getElem hm, ← h3, Array.getElem?_toList, Array.getElem?_eq_getElem (by rw [size_flatK]; exact ht)]
  · rw [List.getElem?_eq_none (by simpa using Nat.le_of_not_lt ht), List.getElem?_eq_none (by rw [hl]; simpa using Nat.le_of_not_lt ht)]
theorem putCells_list {F : Array Value} {cur : Array Value} (h : F.size ≤ cur.size) : (putCells id 0 F cur).toList = F.toList ++ cur.toList.drop F.size := by
  apply List.ext_getElem?
  intro t
  have hs : (putCells id 0 F cur).size = cur.size := by simp [putCells]
  by_cases ht : t < cur.size
  · rw [Array.getElem?_toList]
    unfold putCells
    rw [Array.getElem?_mapIdx, Array.getElem?_eq_getElem ht, Option.map_some]
    by_cases h2 : t < F.size
    · rw [if_pos (by omega), List.getElem?_append_left (by simpa using h2), Array.getElem?_toList, Array.getElem?_eq_getElem h2]
      show some (id F[t - 0]!) = _
      rw [Nat.sub_zero, getElem!_pos _ t h2]
      rfl
    · rw [if_neg (by omega), List.getElem?_append_right (by simpa using h2), List.getElem?_drop]
      rw [show F.size + (t - F.toList.length) = t by simp; omega, Array.getElem?_toList, Array.getElem?_eq_getElem ht]
  · rw [List.getElem?_eq_none (by simp [hs]; omega), List.getElem?_eq_none (by simp; omega)]
theorem grow_of_inv {σ : Nat → Value} {Z Z' : Nat → Prop} {σ' : Nat → Value} {W w' : World} (h : Inv (ctx0 [] σ Z W) [] σ' Z' w') : ∃ q os, w' = grow (W.drewN q) os := by
  have hfr : ∀ b, b < W.heap.size → w'.heap[b]? = W.heap[b]? := fun b hb => h.frame b hb (by rintro ⟨g, ob, hg, _⟩; simp [lk] at hg)
  have hsz : W.heap.size ≤ w'.heap.size := h.size
  have hdr : W.drawn ≤ w'.drawn := h.drawn
  refine ⟨w'.drawn - W.drawn, w'.heap.extract W.heap.size w'.heap.size, ?_⟩
  have e1 : w'.heap = W.heap ++ w'.heap.extract W.heap.size w'.heap.size := by
    apply Array.ext_getElem?
    intro i
    by_cases hi : i < W.heap.size
    · rw [hfr i hi, Array.getElem?_append_left hi]
    · rw [Array.getElem?_append_right (by omega), Array.getElem?_extract]
      by_cases h2 : i < w'.heap.size
      · rw [if_pos (by omega), show W.heap.size + (i - W.heap.size) = i by omega]
      · rw [if_neg (by omega), Array.getElem?_eq_none (by omega)]
  have e2 : w'.os = W.os := h.os
  have e3 : w'.tape = W.tape := h.tape
  have e4 : w'.output = W.output := h.output
  generalize w'.heap.extract W.heap.size w'.heap.size = os at e1
  cases w'
  cases W
  simp only [grow, World.drewN] at *
  subst e1 e2 e3 e4
  congr
  omega
theorem ordSWO (σ : Nat → Value) (Z : Nat → Prop) (w : World) : SWO (ltOf fun x y : El σ Z w => ordF x.f y.f) where
  irrefl x := by unfold ltOf; simp [ordF_refl]
  trans x y z h1 h2 := by
    unfold ltOf at *
    simp only [decide_eq_true_eq] at *
    exact ordF_trans h1 h2
  ntrans x y z h1 h2 := by
    unfold ltOf at *
    simp only [decide_eq_false_iff_not] at *
    have a1 := ordF_neg x.f y.f
    have a2 := ordF_neg y.f z.f
    have a3 := ordF_neg x.f z.f
    have := ordF_le (x := z.f) (y := y.f) (z := x.f) (by omega) (by omega)
    omega
theorem heap_sort {α : Type} [Inhabited α] (enc : α → List Value) (w : World) (b m : Nat) (d : Array α) (os : Array Obj) (k : Nat) (hk : k < w.heap.size) : (sortWorldK enc 4 w b 0 m d os).heap[k]? = if k = b then (w.heap[k]?).map (onCells (putCells id 0 (flatK enc 4 d))) else w.heap[k]? := by
  unfold sortWorldK grow putRowK putRow mapBlock Sort.ahead
  dsimp only
  rw [Array.getElem?_append_left (by simpa using hk), Array.getElem?_modify]
  by_cases h : k = b
  · rw [if_pos h, if_pos h.symm]
  · rw [if_neg h, if_neg (fun e => h e.symm)]
set_option maxHeartbeats 2000000 in
theorem sortFunc_T (l : List Fl) (hf : ∀ f ∈ l, f.Fit) (h0 : l ≠ []) (hl : l.length < 4611686018427387904) : FunO Tryz.prog 115 [.osl 1000, .fn 116 []] [(1000, .row 108 4 l.length ((l.flatMap encFl).map .fv))] (.tup []) [(1000, .row 108 4 l.length (((sortF l).flatMap encFl).map .fv))] := by
  refine ⟨by kernel_rfl, fun σ Z w vs hI hr => ?_⟩
  match vs, hr with
  | [v0, v1], hr =>
  obtain ⟨hr0, hr1, _⟩ := hr
  obtain ⟨rfl, _⟩ := hr0
  obtain ⟨cs, rfl, hcs⟩ := hr1
  have hcs : cs = #[] := by
    have := AV.RepL.length hcs
    simpa using this
  subst hcs
  have hg : lk [(1000, OB.row 108 4 l.length ((l.flatMap encFl).map .fv))] 1000 = some (.row 108 4 l.length ((l.flatMap encFl).map .fv)) := rfl
  obtain ⟨xs, hz, hx⟩ := hI.has 1000 _ hg
  have hn : 0 < l.length := List.length_pos_iff.2 h0
  rcases hz.2 with ⟨h, _⟩ | ⟨b, cap, cur, hv, hc0, hh, hnc, hcm, hcs, htk⟩
  · omega
  have hblk : blk (σ 1000) = some b := by rw [hv]; exact blk_slice hc0
  have hm := hI.mine 1000 _ b hg hblk
  obtain ⟨ds, hd1, hd2⟩ := els_of l xs hf hx
  have hds : ds.length = l.length := by rw [← hd1, List.length_map]
  obtain ⟨d0, hd0⟩ : ∃ x, x ∈ ds := List.exists_mem_of_ne_nil ds (fun e => by rw [e] at hds; simp at hds; omega)
  haveI : Inhabited (El σ Z w) := ⟨d0⟩
  have hk4 : ∀ x : El σ Z w, x.vs.length = 4 := fun x => x.len
  have hfl := flatK_list (enc := El.vs) hk4 ds.toArray
  have hfl2 : (flatK El.vs 4 ds.toArray).toList = xs := by rw [hfl]; simpa using hd2
  have hH : HoldsK El.vs 4 w b 0 ds.toArray := by
    intro j hj
    rw [size_flatK] at hj
    have hj2 : j < xs.length := by rw [← hfl2]; simpa using hj
    have hjn : j < l.length * 4 := by rw [hz.1] at hj2; exact hj2
    obtain ⟨u, hu⟩ : ∃ u, xs[j]? = some u := ⟨_, List.getElem?_eq_getElem hj2⟩
    have hjc : cur[j]? = some u := by
      rw [← hu, ← htk, List.getElem?_take, if_pos hjn, Array.getElem?_toList]
    have hF : (flatK El.vs 4 ds.toArray)[j]! = u := by
      rw [getElem!_pos _ j (by rw [size_flatK]; exact hj)]
      have : (flatK El.vs 4 ds.toArray).toList[j]? = some u := by rw [hfl2, hu]
      rw [Array.getElem?_toList, Array.getElem?_eq_getElem (by rw [size_flatK]; exact hj)] at this
      exact Option.some.inj this
    rw [hF, Nat.zero_add]
    exact ⟨(cell_of_row w b j cur _ (0, 0) hh).trans hjc, by simp [World.frozen?, hh]⟩
  have hcmp : CmpLays Tryz.prog 116 #[] El.vs 4 (fun x y : El σ Z w => ordF x.f y.f) b 0 ds.toArray.size w := by
    intro m os dk _ x y
    have hkeep : Keeps Z w (sortWorldK El.vs 4 w b 0 m dk os) := fun z hz => by
      rw [heap_sort _ _ _ _ _ _ _ (hI.zlt z hz), if_neg (fun e : z = b => hm.2.1 (e ▸ hz))]
    have hzl : ∀ z, Z z → z < (sortWorldK El.vs 4 w b 0 m dk os).heap.size := fun z hz => by
      have := hI.zlt z hz
      unfold sortWorldK grow putRowK putRow mapBlock Sort.ahead
      simp
      omega
    have hT := (order_T x.f y.f x.fit y.fit).2 σ Z _ [.agg x.vs.toArray, .agg y.vs.toArray] (inv_none hzl)
      ⟨⟨_, rfl, by simpa using x.rep.mono hkeep (fun _ h => h) (fun _ _ => rfl)⟩, ⟨_, rfl, by simpa using y.rep.mono hkeep (fun _ h => h) (fun _ _ => rfl)⟩, trivial⟩
    refine hT.mono ?_
    rintro e w' ⟨v, r, own', σ', Z', rfl, ⟨rfl, rfl⟩, hI', hr'⟩
    exact ⟨by rw [show v = _ from hr'], grow_of_inv hI'⟩
  have hcall := AnyQ.slices_SortFunc sortLays 4 Tryz.isAgg108 Tryz.sizeOf108 El.vs hk4 (fun x v hv => ones_rep (onesB_map (encFl x.f)) x.rep v hv) (fun x y : El σ Z w => ordF x.f y.f) (ordSWO σ Z w) 116 #[] b 0 cap ds.toArray w
    (fun args w => run_callFunc_enter (by kernel_rfl) args w) hcmp hH hm.2.2 (by simpa [hds] using hl)
  have hvs : [σ 1000, Value.func (.func 116) #[] #[]].toArray = #[.slice (some ⟨b, 0, none⟩) ds.toArray.size cap, .func (.func 116) #[] #[]] := by
    rw [hv]
    simp [hds]
  rw [hvs]
  refine Calls.mono (f := 115) hcall ?_
  rintro e w' ⟨rfl, d', n, os, hp, hs, rfl⟩
  have hsz : d'.size = ds.length := by simpa using hp.1
  have hperm : d'.toList.Perm ds := by
    have := hp.2.2
    rw [show (d'.extract 0 ds.toArray.size).toList = d'.toList by simp [hsz]; rw [← Array.length_toList] at hsz; rw [List.take_of_length_le (by omega)], show (ds.toArray.extract 0 ds.toArray.size).toList = ds by simp] at this
    exact this
  have hsorted : (d'.toList.map El.f) = sortF l := by
    refine sorted_uniq ((hperm.map El.f).trans ?_) ?_ (sortF_sorted l)
    · rw [hd1]
      exact (sortF_perm l).symm
    · rw [List.pairwise_map, List.pairwise_iff_getElem]
      intro i j hi hj hij
      have hij' : j < ds.toArray.size := by simpa [hsz] using hj
      have := hs i j (Nat.zero_le _) hij hij'
      simp only [Array.length_toList] at hi hj
      rw [getElem!_pos _ i hi, getElem!_pos _ j hj] at this
      unfold ltOf at this
      simp only [decide_eq_false_iff_not] at this
      have a := ordF_neg d'[j].f d'[i].f
      simp only [Array.getElem_toList]
      omega
  have hF : (flatK El.vs 4 d').toList = d'.toList.flatMap El.vs := flatK_list hk4 d'
  have hFs : (flatK El.vs 4 d').size = l.length * 4 := by rw [size_flatK, hsz, hds]
  have hcap : l.length * 4 ≤ cur.size := by rw [hcs]; exact Nat.mul_le_mul_right 4 hnc
  have hput := putCells_list (F := flatK El.vs 4 d') (cur := cur) (by omega)
  -- the row is written; then all grows
  have hI1 : Inv (ctx0 [(1000, OB.row 108 4 l.length ((l.flatMap encFl).map .fv))] σ Z w) ((1000, .row 108 4 l.length (((sortF l).flatMap encFl).map .fv)) :: [(1000, .row 108 4 l.length ((l.flatMap encFl).map .fv))]) σ Z (mapBlock w b (putCells id 0 (flatK El.vs 4 d'))) := by
    refine hI.write hg hblk rfl rfl rfl rfl (by simp [mapBlock]) (fun k hk => ?_) ⟨d'.toList.flatMap El.vs, ⟨?_, .inr ⟨b, cap, putCells id 0 (flatK El.vs 4 d') cur, hv, hc0, ?_, hnc, hcm, ?_, ?_⟩⟩, ?_⟩
    · unfold mapBlock
      dsimp only
      rw [Array.getElem?_modify, if_neg (fun e => hk e.symm)]
    · rw [← hF, Array.length_toList, hFs]
    · unfold mapBlock
      dsimp only
      rw [Array.getElem?_modify, if_pos rfl, hh]
      rfl
    · rw [← Array.length_toList, hput]
      simp [hFs, hcs]
      omega
    · rw [hput, List.take_left' (by rw [Array.length_toList, hFs]), hF]
    · have := els_rep d'.toList
      rw [hsorted] at this
      refine this.mono (fun z hz => ?_) (fun _ h => h) (fun _ _ => rfl)
      unfold mapBlock
      dsimp only
      rw [Array.getElem?_modify, if_neg (fun e : b = z => hm.2.1 (e ▸ hz))]
  refine ⟨_, _, _, σ, Z, rfl, ⟨rfl, rfl⟩, ?_, ⟨#[], rfl, trivial⟩⟩
  refine inv_kept (w := mapBlock w b (putCells id 0 (flatK El.vs 4 d'))) (hI1.same fun i => ?_) rfl rfl rfl (by simp [sortWorldK, grow, putRowK, putRow, mapBlock, Sort.ahead]) (by simp [sortWorldK, grow, putRowK, putRow, mapBlock, Sort.ahead]) (fun k hk => ?_)
  · rw [lk_cons, lk_cons, lk_cons]
    split <;> rfl
  · unfold sortWorldK grow putRowK putRow mapBlock Sort.ahead
    dsimp only
    rw [Array.getElem?_append_left (by simpa [mapBlock] using hk)]
end Go.Proofs.YtmidechdlbcepaaGreat
namespace Go.Proofs.YtmidechdlbcepaaGreat
open Go.RowKit
set_option maxRecDepth 100000
theorem Fun.of_pure {P : Program} {f : FuncId} {n m : Int} {k k' : IntKind} (hen : enterB P f = true) (h : ∀ w, Calls P f #[.int k n] w fun e w' => e = .returned (.int k' m) ∧ w' = w) : Fun P f [.fv (.int k n)] (.fv (.int k' m)) := by
  refine ⟨hen, fun σ Z w vs hI hr => ?_⟩
  match vs, hr with
  | [v0], hr =>
  obtain ⟨hr0, _⟩ := hr
  rw [show v0 = _ from hr0]
  refine (h w).mono ?_
  rintro e w' ⟨rfl, rfl⟩
  exact ⟨_, _, _, σ, Z, rfl, ⟨rfl, rfl⟩, hI, rfl⟩
theorem bitsLen0_T : Fun Tryz.prog 147 [.fv (.int .u64 0)] (.fv (.int .i64 0)) :=
  Fun.of_pure (by kernel_rfl) fun w => by
    have h := Any.bits_Len (Go.Proofs.SlLaysF0.n15.bits (P := Tryz.prog) (ρ := sortRen) { sortLays with }) (0 : Int) w (by omega) (by omega)
    exact h
theorem insertion0_T : FunO Tryz.prog 160 [.osl 1000, .fv (.int .i64 0), .fv (.int .i64 0), .fn 116 []] [(1000, .row 108 4 0 [])] (.tup []) [(1000, .row 108 4 0 [])] := by
  refine FunO.bodyL tbl_ok Tryz.func160 rfl (by kernel_rfl) rfl rfl rfl ?_
  repeat' (first | refine X.loc ?_ | refine nx ?_ | refine cb ?_ ?_ | (refine cc ?_ ?_ <;> intro hcond) | refine rb ?_ | refine nd ?_ | refine dk ?_ | fail)
  refine WP.loop (ι := Unit) (fun _ => ⟨[(1, .fv (.int .i64 0)), (2, .fv (.int .i64 0)), (8, .fv (.int .i64 1))], [(1000, .row 108 4 0 [])]⟩) (fun _ => True) (fun _ => 0) () trivial ?_ ?_
  · exact tq [] []
  rintro _ _
  try dsimp only
  repeat' (first | refine X.loc ?_ | refine nx ?_ | refine X.cdT ?_ | refine X.cdF ?_ | refine cb ?_ ?_ | (refine cc ?_ ?_ <;> intro hcond) | refine rb ?_ | refine nd ?_ | refine dk ?_ | fail)
  exact rq ⟨[], [(1000, .row 108 4 0 [])]⟩ (tq [] [])
theorem pdq0_T : FunO Tryz.prog 146 [.osl 1000, .fv (.int .i64 0), .fv (.int .i64 0), .fv (.int .i64 0), .fn 116 []] [(1000, .row 108 4 0 [])] (.tup []) [(1000, .row 108 4 0 [])] := by
  have h := insertion0_T
  refine FunO.bodyL tbl_ok Tryz.func146 rfl (by kernel_rfl) rfl rfl rfl ?_
  repeat' (first | refine X.loc ?_ | refine nx ?_ | refine cb ?_ ?_ | (refine cc ?_ ?_ <;> intro hcond) | refine rb ?_ | refine nd ?_ | refine dk ?_ | fail)
  refine WP.loop (ι := Unit) (fun _ => ⟨[(0, .osl 1000), (1, .fv (.int .i64 0)), (2, .fv (.int .i64 0)), (3, .fv (.int .i64 0)), (4, .fn 116 [])], [(1000, .row 108 4 0 [])]⟩) (fun _ => True) (fun _ => 0) () trivial ?_ ?_
  · exact tq [] []
  rintro _ _
  try dsimp only
  repeat' (first | refine X.loc ?_ | refine nx ?_ | refine X.cdT ?_ | refine X.cdF ?_ | refine cb ?_ ?_ | (refine cc ?_ ?_ <;> intro hcond) | refine rb ?_ | refine X.c1 (h) ?_ | refine nd ?_ | refine dk ?_ | fail)
  exact rq ⟨[], [(1000, .row 108 4 0 [])]⟩ (tq [] [])
theorem sortFunc0_T : FunO Tryz.prog 115 [.osl 1000, .fn 116 []] [(1000, .row 108 4 0 [])] (.tup []) [(1000, .row 108 4 0 [])] := by
  have h1 := bitsLen0_T
  have h2 := pdq0_T
  refine FunO.bodyL tbl_ok Tryz.func115 rfl (by kernel_rfl) rfl rfl rfl ?_
  repeat' (first | (apply X.loE; (· exact aR); (· first | exact .callL rfl rfl rfl (h1) rfl | exact bl (h1))) | refine X.loc ?_ | refine nx ?_ | refine X.cdT ?_ | refine X.cdF ?_ | refine cb ?_ ?_ | (refine cc ?_ ?_ <;> intro hcond) | (apply X.gsE; (· exact aR); (· exact aV); (· exact aW); (· intro hc; first | exact .callG rfl rfl rfl (h1) rfl | exact bg (h1)); (· exact aR)) | refine rb ?_ | refine X.c1 (h2) ?_ | refine nd ?_ | refine dk ?_ | fail)
  exact rq ⟨[], [(1000, .row 108 4 0 [])]⟩ (tq [] [])
theorem sortFuncA_T (l : List Fl) (hf : ∀ f ∈ l, f.Fit) (hl : l.length < 4611686018427387904) : FunO Tryz.prog 115 [.osl 1000, .fn 116 []] [(1000, .row 108 4 l.length ((l.flatMap encFl).map .fv))] (.tup []) [(1000, .row 108 4 l.length (((sortF l).flatMap encFl).map .fv))] := by
  by_cases h : l = []
  · subst h
    rw [show sortF [] = [] from (sortF_perm []).eq_nil]
    exact sortFunc0_T
  · exact sortFunc_T l hf h hl
theorem cloneOMx_T (l : List Mx) (hl : l.length * 24 ≤ 140737488355328) : FunO Tryz.prog 113 [.fv (slOf encMx l)] [] (.osl 7) [(7, .row 172 3 l.length ((l.flatMap encMx).map .fv))] := by
  refine FunO.bodyL tbl_ok Tryz.func113 rfl (by kernel_rfl) rfl rfl rfl ?_
  rcases Nat.eq_zero_or_pos l.length with h0 | h0
  · obtain rfl := List.eq_nil_of_length_eq_zero h0
    repeat' (first | refine X.loc ?_ | refine nx ?_ | refine cb ?_ ?_ | (refine cc ?_ ?_ <;> intro hcond) | refine rb ?_ | refine nd ?_ | refine dk ?_ | fail)
    · exact rq ⟨[(2, .osl 7)], [(7, .row 172 3 0 [])]⟩ (tq [(7, .nil)] [])
    · skip
      refine .ofL (s' := ⟨[(2, .osl 7)], [(7, .row 172 3 0 [])]⟩) (by first | exact .inl rfl | exact .inr rfl) ?_ rfl rfl (by repeat' (first | exact trivial | refine ⟨⟨_, rfl, fun _ _ _ _ h => h⟩, ?_⟩))
      refine St.to [(7, .id 7)] [] rfl rfl ?_ ?_ <;> (repeat' (first | exact tA | refine t1 ?_ | exact tB | refine t2 ?_ ?_ | refine t3 ?_ | refine t4 ?_ ?_ | refine .ofEq ?_ | refine OB.To.cut rfl rfl ?_ ?_ ?_ ?_ | refine OB.To.box rfl rfl ?_ | refine ⟨⟨_, rfl, ?_⟩, ?_⟩ | refine ⟨?_, ?_⟩ | fail))
      rfl
  · skip
    repeat' (first | refine X.loc ?_ | refine nx ?_ | refine cb ?_ ?_ | (refine cc ?_ ?_ <;> intro hcond) | refine rb ?_ | refine nd ?_ | refine dk ?_ | fail)
    refine .ofL (s' := ⟨[(2, .osl 7)], [(7, .row 172 3 l.length ((l.flatMap encMx).map .fv))]⟩) (by first | exact .inl rfl | exact .inr rfl) ?_ rfl rfl (by repeat' (first | exact trivial | refine ⟨⟨_, rfl, fun _ _ _ _ h => h⟩, ?_⟩))
    refine St.to [(7, .id 7)] [] rfl rfl ?_ ?_ <;> (repeat' (first | exact tA | refine t1 ?_ | exact tB | refine t2 ?_ ?_ | refine t3 ?_ | refine t4 ?_ ?_ | refine .ofEq ?_ | refine OB.To.cut rfl rfl ?_ ?_ ?_ ?_ | refine OB.To.box rfl rfl ?_ | refine ⟨⟨_, rfl, ?_⟩, ?_⟩ | refine ⟨?_, ?_⟩ | fail))
    all_goals first | omega | simp
theorem cloneMx_T (l : List Mx) (hl : l.length * 24 ≤ 140737488355328) : Fun Tryz.prog 113 [.fv (slOf encMx l)] (.fv (slOf encMx l)) := (cloneOMx_T l hl).froz [7] (.frz rfl rfl rfl)
theorem cloneODx_T (l : List Dx) (hl : l.length * 24 ≤ 140737488355328) : FunO Tryz.prog 114 [.fv (slOf encDx l)] [] (.osl 7) [(7, .row 175 3 l.length ((l.flatMap encDx).map .fv))] := by
  refine FunO.bodyL tbl_ok Tryz.func114 rfl (by kernel_rfl) rfl rfl rfl ?_
  rcases Nat.eq_zero_or_pos l.length with h0 | h0
  · obtain rfl := List.eq_nil_of_length_eq_zero h0
    repeat' (first | refine X.loc ?_ | refine nx ?_ | refine cb ?_ ?_ | (refine cc ?_ ?_ <;> intro hcond) | refine rb ?_ | refine nd ?_ | refine dk ?_ | fail)
    · exact rq ⟨[(2, .osl 7)], [(7, .row 175 3 0 [])]⟩ (tq [(7, .nil)] [])
    · skip
      refine .ofL (s' := ⟨[(2, .osl 7)], [(7, .row 175 3 0 [])]⟩) (by first | exact .inl rfl | exact .inr rfl) ?_ rfl rfl (by repeat' (first | exact trivial | refine ⟨⟨_, rfl, fun _ _ _ _ h => h⟩, ?_⟩))
      refine St.to [(7, .id 7)] [] rfl rfl ?_ ?_ <;> (repeat' (first | exact tA | refine t1 ?_ | exact tB | refine t2 ?_ ?_ | refine t3 ?_ | refine t4 ?_ ?_ | refine .ofEq ?_ | refine OB.To.cut rfl rfl ?_ ?_ ?_ ?_ | refine OB.To.box rfl rfl ?_ | refine ⟨⟨_, rfl, ?_⟩, ?_⟩ | refine ⟨?_, ?_⟩ | fail))
      rfl
  · skip
    repeat' (first | refine X.loc ?_ | refine nx ?_ | refine cb ?_ ?_ | (refine cc ?_ ?_ <;> intro hcond) | refine rb ?_ | refine nd ?_ | refine dk ?_ | fail)
    refine .ofL (s' := ⟨[(2, .osl 7)], [(7, .row 175 3 l.length ((l.flatMap encDx).map .fv))]⟩) (by first | exact .inl rfl | exact .inr rfl) ?_ rfl rfl (by repeat' (first | exact trivial | refine ⟨⟨_, rfl, fun _ _ _ _ h => h⟩, ?_⟩))
    refine St.to [(7, .id 7)] [] rfl rfl ?_ ?_ <;> (repeat' (first | exact tA | refine t1 ?_ | exact tB | refine t2 ?_ ?_ | refine t3 ?_ | refine t4 ?_ ?_ | refine .ofEq ?_ | refine OB.To.cut rfl rfl ?_ ?_ ?_ ?_ | refine OB.To.box rfl rfl ?_ | refine ⟨⟨_, rfl, ?_⟩, ?_⟩ | refine ⟨?_, ?_⟩ | fail))
    all_goals first | omega | simp
theorem cloneDx_T (l : List Dx) (hl : l.length * 24 ≤ 140737488355328) : Fun Tryz.prog 114 [.fv (slOf encDx l)] (.fv (slOf encDx l)) := (cloneODx_T l hl).froz [7] (.frz rfl rfl rfl)
theorem sameF_T (x y : Fl) (hx : x.Fit) (hy : y.Fit) : Fun Tryz.prog 118 [.agg ((encFl x).map .fv), .agg ((encFl y).map .fv)] (.fv (.bool (ordF x y == 0))) := by
  have c := order_T x y hx hy
  generalize ordF x y = o at *
  refine Fun.body tbl_ok Tryz.func118 rfl (by kernel_rfl) rfl rfl rfl ?_
  repeat' (first | (apply X.loE; (· exact aR); (· first | exact .callL rfl rfl rfl (c) rfl | exact bl (c))) | refine X.loc ?_ | refine nx ?_ | refine cb ?_ ?_ | (refine cc ?_ ?_ <;> intro hcond) | (apply X.gsE; (· exact aR); (· exact aV); (· exact aW); (· intro hc; first | exact .callG rfl rfl rfl (c) rfl | exact bg (c)); (· exact aR)) | refine rb ?_ | refine nd ?_ | refine dk ?_ | fail)
  exact .f1 (.inl rfl) rfl rfl
set_option maxHeartbeats 4000000 in
theorem compact_T (l : List Fl) (hf : ∀ f ∈ l, f.Fit) (hl : l.length < 4611686018427387904) : FunO Tryz.prog 117 [.osl 1000, .fn 118 []] [(1000, .row 108 4 l.length ((l.flatMap encFl).map .fv))] (.osl 7) [(7, .row 108 4 (compF l).length (((compF l).flatMap encFl).map .fv))] := by
  refine FunO.bodyL tbl_ok Tryz.func117 rfl (by kernel_rfl) rfl rfl rfl ?_
  by_cases h2 : l.length < 2
  · have e : compF l = l := by
      match l, h2 with
      | [], _ => rfl
      | [x], _ => rfl
      | _ :: _ :: _, h => exact absurd h (by simp)
    rw [e]
    repeat' (first | refine X.loc ?_ | refine nx ?_ | refine X.cdT ?_ | refine X.cdF ?_ | refine cb ?_ ?_ | (refine cc ?_ ?_ <;> intro hcond) | refine rb ?_ | refine nd ?_ | refine dk ?_ | fail)
    exact rq ⟨[(4, .osl 7)], [(7, .row 108 4 l.length ((l.flatMap encFl).map .fv))]⟩ (tq [(7, .id 1000)] [])
  repeat' (first | refine X.loc ?_ | refine nx ?_ | refine X.cdT ?_ | refine X.cdF ?_ | refine cb ?_ ?_ | (refine cc ?_ ?_ <;> intro hcond) | refine rb ?_ | refine nd ?_ | refine dk ?_ | fail)
  refine WP.loop (ι := Nat) (fun i => ⟨[(0, .osl 1000), (1, .fn 118 []), (5, .fv (.int .i64 i))], [(1000, .row 108 4 l.length ((l.flatMap encFl).map .fv))]⟩) (fun i => 1 ≤ i ∧ i ≤ l.length ∧ compF (l.take i) = l.take i) (fun i => l.length - i) 1 ⟨by omega, by omega, ?_⟩ ?_ ?_
  · match l, h2 with
    | [], h => exact absurd (by simp) h
    | x :: l, _ => rfl
  · exact tq [] []
  rintro i ⟨h1, hi, he⟩
  try dsimp only
  by_cases hlt : i < l.length
  case neg =>
    rw [List.take_of_length_le (by omega)] at he
    rw [he]
    repeat' (first | refine X.loc ?_ | refine nx ?_ | refine X.cdT ?_ | refine X.cdF ?_ | refine cb ?_ ?_ | (refine cc ?_ ?_ <;> intro hcond) | refine rb ?_ | refine nd ?_ | refine dk ?_ | fail)
    exact rq ⟨[(4, .osl 7)], [(7, .row 108 4 l.length ((l.flatMap encFl).map .fv))]⟩ (tq [(7, .id 1000)] [])
  case pos =>
    obtain ⟨x, hx⟩ : ∃ x, l[i]? = some x := ⟨_, List.getElem?_eq_getElem hlt⟩
    obtain ⟨j, rfl⟩ : ∃ j, i = j + 1 := ⟨i - 1, by omega⟩
    obtain ⟨p, hp⟩ : ∃ p, l[j]? = some p := ⟨_, List.getElem?_eq_getElem (by omega)⟩
    have hs := compF_snoc hp hx
    rw [he] at hs
    have hc := sameF_T x p (hf x (List.mem_of_getElem? hx)) (hf p (List.mem_of_getElem? hp))
    by_cases h0 : ordF x p = 0
    case neg =>
      rw [if_neg h0] at hs
      rw [show (ordF x p == 0) = false by simpa using h0] at hc
      have hx2 : l.take (j + 2) = l.take (j + 1) ++ [x] := by rw [List.take_add_one, hx]; rfl
      repeat' (first | (apply X.loE; (· exact aR); (· first | (exact .eff (.loadO rfl rfl (readFl (i := j + 1) (by omega) hx))) | (exact .eff (.loadO rfl rfl (readFl (i := j) (by omega) hp))) | exact .callL rfl rfl rfl (hc) rfl | exact bl (hc))) | refine X.loc ?_ | refine nx ?_ | refine X.cdT ?_ | refine X.cdF ?_ | refine cb ?_ ?_ | (refine cc ?_ ?_ <;> intro hcond) | (apply X.gsE; (· exact aR); (· exact aV); (· exact aW); (· intro hc; first | (exact .eff (.loadO rfl rfl (readFl (i := j + 1) (by omega) hx))) | (exact .eff (.loadO rfl rfl (readFl (i := j) (by omega) hp))) | exact .callG rfl rfl rfl (hc) rfl | exact bg (hc)); (· exact aR)) | refine rb ?_ | refine nd ?_ | refine dk ?_ | fail)
      refine ⟨j + 2, ⟨by omega, by omega, by rw [hs, hx2]⟩, by omega, ?_⟩
      exact tq [] []
    case pos =>
      rw [if_pos h0] at hs
      rw [show (ordF x p == 0) = true by simpa using h0] at hc
      repeat' (first | (apply X.loE; (· exact aR); (· first | (exact .eff (.loadO rfl rfl (readFl (i := j + 1) (by omega) hx))) | (exact .eff (.loadO rfl rfl (readFl (i := j) (by omega) hp))) | exact .callL rfl rfl rfl (hc) rfl | exact bl (hc))) | refine X.loc ?_ | refine nx ?_ | refine X.cdT ?_ | refine X.cdF ?_ | refine cb ?_ ?_ | (refine cc ?_ ?_ <;> intro hcond) | (apply X.gsE; (· exact aR); (· exact aV); (· exact aW); (· intro hc; first | (exact .eff (.loadO rfl rfl (readFl (i := j + 1) (by omega) hx))) | (exact .eff (.loadO rfl rfl (readFl (i := j) (by omega) hp))) | exact .callG rfl rfl rfl (hc) rfl | exact bg (hc)); (· exact aR)) | refine rb ?_ | refine nd ?_ | refine dk ?_ | fail)
      refine WP.loop (ι := Nat × List Fl) (fun q => ⟨[(0, .osl 1000), (1, .fn 118 []), (5, .fv (.int .i64 (compF (l.take q.1)).length)), (6, .osb 1000 (j + 1) (l.length - (j + 1)) 4), (7, .fv (.int .i64 ((q.1 : Int) - ((j : Int) + 1))))], [(1000, .row 108 4 l.length ((q.2.flatMap encFl).map .fv))]⟩) (fun q => j + 2 ≤ q.1 ∧ q.1 ≤ l.length ∧ q.2.length = l.length ∧ q.2.take (compF (l.take q.1)).length = compF (l.take q.1) ∧ q.2.drop (q.1 - 1) = l.drop (q.1 - 1) ∧ (compF (l.take q.1)).length + 1 ≤ q.1) (fun q => l.length - q.1) (j + 2, l) ⟨by omega, by dsimp only; omega, rfl, by rw [hs, List.length_take, Nat.min_eq_left (by omega)], rfl, by dsimp only; rw [hs, List.length_take, Nat.min_eq_left (by omega)]; omega⟩ ?_ ?_
      · try dsimp only
        rw [hs, List.length_take, Nat.min_eq_left (by omega)]
        refine St.to [] [] rfl rfl ?_ ?_ <;> (repeat' (first | exact .sb0 rfl | exact tA | refine t1 ?_ | exact tB | refine t2 ?_ ?_ | refine t3 ?_ | refine t4 ?_ ?_ | refine .ofEq ?_ | refine OB.To.cut rfl rfl ?_ ?_ ?_ ?_ | refine OB.To.box rfl rfl ?_ | refine ⟨⟨_, rfl, ?_⟩, ?_⟩ | refine ⟨?_, ?_⟩ | fail))
        all_goals first | omega | (congr 2; omega)
      rintro ⟨q, R⟩ ⟨g1, g2, g3, g4, g5, g6⟩
      try dsimp only at g1 g2 g3 g4 g5 g6
      try dsimp only
      by_cases hq : q < l.length
      case pos =>
        obtain ⟨a, ha⟩ : ∃ a, l[q]? = some a := ⟨_, List.getElem?_eq_getElem hq⟩
        obtain ⟨r, rfl⟩ : ∃ r, q = r + 1 := ⟨q - 1, by omega⟩
        obtain ⟨b, hb⟩ : ∃ b, l[r]? = some b := ⟨_, List.getElem?_eq_getElem (by omega)⟩
        rw [Nat.add_sub_cancel] at g5
        have hRa : R[r + 1]? = some a := by
          have := congrArg (fun m => m[1]?) g5
          simp only [List.getElem?_drop] at this
          rw [this, ha]
        have hRb : R[r]? = some b := by
          have := congrArg (fun m => m[0]?) g5
          simp only [List.getElem?_drop, Nat.add_zero] at this
          rw [this, hb]
        have hs2 := compF_snoc hb ha
        have hc2 := sameF_T a b (hf a (List.mem_of_getElem? ha)) (hf b (List.mem_of_getElem? hb))
        by_cases h0 : ordF a b = 0
        · rw [if_pos h0] at hs2
          rw [show (ordF a b == 0) = true by simpa using h0] at hc2
          repeat' (first | (apply X.loE; (· exact aR); (· first | (exact .eff (.loadO rfl rfl (readFl (i := r + 1) (by omega) hRa))) | (exact .eff (.loadO rfl rfl (readFl (i := r) (by omega) hRb))) | exact .callL rfl rfl rfl (hc2) rfl | exact bl (hc2))) | refine X.loc ?_ | refine nx ?_ | refine X.cdT ?_ | refine X.cdF ?_ | refine cb ?_ ?_ | (refine cc ?_ ?_ <;> intro hcond) | (apply X.gsE; (· exact aR); (· exact aV); (· exact aW); (· intro hc; first | (exact .eff (.loadO rfl rfl (readFl (i := r + 1) (by omega) hRa))) | (exact .eff (.loadO rfl rfl (readFl (i := r) (by omega) hRb))) | exact .callG rfl rfl rfl (hc2) rfl | exact bg (hc2)); (· exact aR)) | refine rb ?_ | refine nd ?_ | refine dk ?_ | fail)
          refine ⟨(r + 2, R), ⟨by omega, by dsimp only; omega, g3, by dsimp only; rw [hs2]; exact g4, ?_, by dsimp only; rw [hs2]; omega⟩, by dsimp only; omega, ?_⟩
          · show R.drop (r + 1) = l.drop (r + 1)
            rw [← List.drop_drop, g5, List.drop_drop]
          · dsimp only
            rw [hs2]
            refine St.to [] [] rfl rfl ?_ ?_ <;> (repeat' (first | exact .sb0 rfl | exact tA | refine t1 ?_ | exact tB | refine t2 ?_ ?_ | refine t3 ?_ | refine t4 ?_ ?_ | refine .ofEq ?_ | refine OB.To.cut rfl rfl ?_ ?_ ?_ ?_ | refine OB.To.box rfl rfl ?_ | refine ⟨⟨_, rfl, ?_⟩, ?_⟩ | refine ⟨?_, ?_⟩ | fail))
            all_goals first | omega | (congr 2; omega)
        · rw [if_neg h0] at hs2
          rw [show (ordF a b == 0) = false by simpa using h0] at hc2
          have hset := setFl (l := R) (i := (compF (l.take (r + 1))).length) (off := ((compF (l.take (r + 1))).length : Int).toNat * 4) (x := a) (by omega) (by omega)
          have hcl : (compF (l.take (r + 2))).length = (compF (l.take (r + 1))).length + 1 := by rw [hs2]; simp
          repeat' (first | (apply X.loE; (· exact aR); (· first | (exact .eff (.loadO rfl rfl (readFl (i := r + 1) (by omega) hRa))) | (exact .eff (.loadO rfl rfl (readFl (i := r) (by omega) hRb))) | exact .callL rfl rfl rfl (hc2) rfl | exact bl (hc2))) | refine X.loc ?_ | (apply X.stRE; (· exact aS); (· exact hset); (· exact aE)) | refine nx ?_ | refine X.cdT ?_ | refine X.cdF ?_ | refine cb ?_ ?_ | (refine cc ?_ ?_ <;> intro hcond) | (apply X.gsE; (· exact aR); (· exact aV); (· exact aW); (· intro hc; first | (exact .eff (.loadO rfl rfl (readFl (i := r + 1) (by omega) hRa))) | (exact .eff (.loadO rfl rfl (readFl (i := r) (by omega) hRb))) | exact .callG rfl rfl rfl (hc2) rfl | exact bg (hc2)); (· exact aR)) | refine rb ?_ | refine nd ?_ | refine dk ?_ | fail)
          refine ⟨(r + 2, R.set (compF (l.take (r + 1))).length a), ⟨by omega, by dsimp only; omega, by dsimp only; rw [List.length_set, g3], ?_, ?_, by dsimp only; rw [hcl]; omega⟩, by dsimp only; omega, ?_⟩
          · dsimp only
            rw [hcl, hs2, List.take_add_one, List.take_set_of_le (by omega), g4, List.getElem?_set_self (by omega)]
            rfl
          · show (R.set _ a).drop (r + 1) = l.drop (r + 1)
            rw [List.drop_set_of_lt (by omega), ← List.drop_drop, g5, List.drop_drop]
          · dsimp only
            rw [hcl]
            refine St.to [] [] rfl rfl ?_ ?_ <;> (repeat' (first | exact .sb0 rfl | exact tA | refine t1 ?_ | exact tB | refine t2 ?_ ?_ | refine t3 ?_ | refine t4 ?_ ?_ | refine .ofEq ?_ | refine OB.To.cut rfl rfl ?_ ?_ ?_ ?_ | refine OB.To.box rfl rfl ?_ | refine ⟨⟨_, rfl, ?_⟩, ?_⟩ | refine ⟨?_, ?_⟩ | fail))
            all_goals first | omega | (congr 2; omega) | (rw [List.length_set]; done) | (rw [List.length_set, g3]; done)
      case neg =>
        obtain rfl : q = l.length := by omega
        rw [List.take_length] at g4 g6 ⊢
        have hcl := compF_len l
        generalize hW : (compF l).length = W at *
        have hclr : ∃ cs2, setC ((R.flatMap encFl).map AV.fv) (W * 4) ((List.replicate (l.length - W) flZ).flatten) = some cs2 ∧ cs2.take (W * 4) = ((compF l).flatMap encFl).map .fv := by
          have h6 := setC_mk (cs := (R.flatMap encFl).map AV.fv) (off := W * 4) (us := (List.replicate (l.length - W) flZ).flatten) (by
            rw [List.length_flatten, List.map_replicate, List.sum_replicate_nat, List.length_map, flatMap_len encFl_len, g3]
            show W * 4 + (l.length - W) * 4 ≤ _
            omega)
          refine ⟨_, h6, ?_⟩
          rw [clr_cells h6, ← List.map_take, ← g4]
          congr 1
          have h7 : (R.take W ++ R.drop W).flatMap encFl = R.flatMap encFl := by rw [List.take_append_drop]
          rw [← h7, List.flatMap_append]
          exact List.take_left' (by rw [flatMap_len encFl_len, List.length_take, Nat.min_eq_left (by omega)])
        obtain ⟨cs2, h4, h5⟩ := hclr
        repeat' (first | refine X.loc ?_ | (apply X.clr; (· exact aR); (· exact h4); (· exact aE)) | refine nx ?_ | refine X.cdT ?_ | refine X.cdF ?_ | refine cb ?_ ?_ | (refine cc ?_ ?_ <;> intro hcond) | refine rb ?_ | refine nd ?_ | refine dk ?_ | fail)
        refine .ofL (s' := ⟨[(4, .osl 7)], [(7, .row 108 4 W (((compF l).flatMap encFl).map .fv))]⟩) (.inl rfl) ?_ rfl rfl ⟨⟨_, rfl, fun _ _ _ _ h => h⟩, trivial⟩
        refine St.to [(7, .cut 1000 W)] [] rfl rfl ⟨⟨_, rfl, .cut rfl⟩, trivial⟩ ⟨?_, trivial⟩
        exact .cut rfl rfl (by omega) (by omega) h5 (.maps rfl)
def FitL (l : List Fl) : Prop := ∀ f ∈ l, f.Fit
set_option maxHeartbeats 4000000 in
theorem sort_T (l : List Fl) (hf : FitL l) (hl : l.length * 64 ≤ 140737488355328) : FunO Tryz.prog 87 [.fv (slOf encFl l)] [] (.osl 7) [(7, .row 108 4 (sortedF l).length (((sortedF l).flatMap encFl).map .fv))] := by
  have hsl : (sortF l).length = l.length := (sortF_perm l).length_eq
  have hs1 := sortFuncA_T l hf (by omega)
  have hs2 := compact_T (sortF l) (fun f h => hf f ((sortF_perm l).mem_iff.1 h)) (by omega)
  rw [hsl] at hs2
  have hsd : compF (sortF l) = sortedF l := rfl
  rw [hsd] at hs2
  generalize sortF l = L at *
  generalize sortedF l = S at *
  refine FunO.bodyL tbl_ok Tryz.func87 rfl (by kernel_rfl) rfl rfl rfl ?_
  repeat' (first | refine X.loc ?_ | refine nx ?_ | refine X.cdT ?_ | refine X.cdF ?_ | refine cb ?_ ?_ | (refine cc ?_ ?_ <;> intro hcond) | refine rb ?_ | refine nd ?_ | refine dk ?_ | fail)
  refine WP.loop (ι := Nat) (fun k => ⟨[(0, .fv (slOf encFl l)), (3, .osl 900), (9, .fv (slOf encFl l)), (10, .fv (.int .i64 l.length)), (11, .fv (.int .i64 k))], [(900, .row 108 4 l.length (((l.take k ++ List.replicate (l.length - k) flN).flatMap encFl).map .fv))]⟩) (fun k => k ≤ l.length) (fun k => l.length - k) 0 (by omega) ?_ ?_
  · skip
    refine St.to [(900, .id 8)] [] rfl rfl ?_ ?_ <;> (repeat' (first | exact toL_zeros _ | exact tA | refine t1 ?_ | exact tB | refine t2 ?_ ?_ | refine t3 ?_ | refine t4 ?_ ?_ | refine .ofEq ?_ | refine OB.To.cut rfl rfl ?_ ?_ ?_ ?_ | refine OB.To.box rfl rfl ?_ | refine ⟨⟨_, rfl, ?_⟩, ?_⟩ | refine ⟨?_, ?_⟩ | fail))
  rintro k hk
  try dsimp only
  by_cases hlt : k < l.length
  case pos =>
    obtain ⟨x, hx⟩ : ∃ x, l[k]? = some x := ⟨_, List.getElem?_eq_getElem hlt⟩
    have hxf := hf x (List.mem_of_getElem? hx)
    unfold Fl.Fit at hxf
    have c1 := cloneMx_T x.ms (by omega)
    have c2 := cloneDx_T x.ds (by omega)
    have hlen : (l.take k ++ List.replicate (l.length - k) flN).length = l.length := by rw [List.length_append, List.length_take, List.length_replicate]; omega
    have hset := setFl (l := l.take k ++ List.replicate (l.length - k) flN) (i := k) (off := (k : Int).toNat * 4) (x := x) (by omega) (by omega)
    rw [set_next hx] at hset
    generalize l.take k ++ List.replicate (l.length - k) flN = C at *
    repeat' (first | (apply X.loE; (· exact aR); (· first | exact .callL rfl rfl rfl (by first | exact c1 | exact c2) rfl | exact bl (c1) | exact bl (c2))) | refine X.loc ?_ | (apply X.stRE; (· exact aS); (· exact hset); (· exact aE)) | refine nx ?_ | refine X.cdT ?_ | refine X.cdF ?_ | refine cb ?_ ?_ | (refine cc ?_ ?_ <;> intro hcond) | (apply X.gsE; (· exact aR); (· exact aV); (· exact aW); (· intro hc; first | exact .callG rfl rfl rfl (by first | exact c1 | exact c2) rfl | exact bg (c1) | exact bg (c2)); (· exact aR)) | refine rb ?_ | refine nd ?_ | refine dk ?_ | fail)
    refine ⟨k + 1, by omega, by omega, ?_⟩
    exact tq [] []
  case neg =>
    obtain rfl : k = l.length := by omega
    rw [List.take_length, Nat.sub_self, List.replicate_zero, List.append_nil]
    repeat' (first | refine X.loc ?_ | refine nx ?_ | refine X.cdT ?_ | refine X.cdF ?_ | refine cb ?_ ?_ | (refine cc ?_ ?_ <;> intro hcond) | refine rb ?_ | refine X.c0 (hs1) ?_ | refine X.c0 (hs2) ?_ | refine nd ?_ | refine dk ?_ | fail)
    exact rq ⟨[(2, .osl 7)], [(7, .row 108 4 S.length ((S.flatMap encFl).map .fv))]⟩ (tq [(7, .id 34)] [])
end Go.Proofs.YtmidechdlbcepaaGreat