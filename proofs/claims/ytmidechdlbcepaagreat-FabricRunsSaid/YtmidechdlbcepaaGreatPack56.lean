import Derived.Test.YtmidechdlbcepaaGreatPack55
set_option linter.unusedSimpArgs false
set_option linter.unusedVariables false
namespace Go.Proofs.YtmidechdlbcepaaGreat
open Go.RowKit
set_option maxRecDepth 100000
def encGl (g : Gl) : List FV := [.int .i64 g.net, .int .i64 g.to] ++ encFr g.is
theorem encGl_len (g : Gl) : (encGl g).length = 10 := rfl
theorem po_any {c : Cf} {n : Int} : (c.ps.any fun p => p.id == n) = (poAt c n).isSome := by
  unfold poAt
  rw [Bool.eq_iff_iff, List.find?_isSome, List.any_eq_true]
theorem goalQ_len (c : Cf) (p : Po) (f : Fr) (q : Po) : (goalQ c p f q).length ≤ 2 := by
  unfold goalQ
  split
  · simp
  · rw [List.length_append]
    have : ∀ {P : Prop} [Decidable P] (g : Gl), (if P then [g] else []).length ≤ 1 := fun g => by split <;> simp
    exact Nat.add_le_add (this _) (this _)
set_option maxHeartbeats 16000000 in
theorem ledOf0_T (c : Cf) (hc : CfOk c) (ch id : Int) (f : Fr) (hf : FrMay f) : FunO Tryz.prog 82 [.agg ((encCf c).map .fv), .fv (.int .i64 ch), .fv (.int .i64 id), .agg ((encFr f).map .fv)] [] (.osl 7) [(7, .row 140 10 (ledF c ch id f).length (((ledF c ch id f).flatMap encGl).map .fv))] := by
  have hpl := hc.pl
  have c1 := portOf_T c id hc.small
  rw [po_any] at c1
  have ep : (c.ps.find? fun p => p.id == id) = poAt c id := rfl
  rw [ep] at c1
  have httl := hf.ttl
  refine FunO.bodyL tbl_ok Tryz.func82 rfl (by kernel_rfl) rfl rfl rfl ?_
  unfold ledF
  cases hpo : poAt c id with
  | none =>
    rw [hpo] at c1
    simp only [Option.getD_some, Option.getD_none, Option.isSome_some, Option.isSome_none] at c1
    repeat' (first | (apply X.loE; (· exact aR); (· first | exact .callL rfl rfl rfl (c1) rfl | exact bl (c1))) | refine X.loc ?_ | (refine X.cdT ?_ rfl (by first |(simp only [Bool.not_false, Bool.true_or, Bool.or_true]; done) |(simp only [Bool.not_true, Bool.not_false, Bool.false_or, Bool.or_false, Bool.true_or, Bool.or_eq_true, bne_iff_ne, ne_eq]; omega) |fail)) | (refine X.cdF ?_ rfl (by first |(simp only [Bool.not_true, Bool.false_or, Bool.or_false, Bool.or_eq_false_iff, bne_eq_false_iff_eq]; omega) |fail)) | refine nx ?_ | refine X.cdT ?_ | refine X.cdF ?_ | refine cb ?_ ?_ | (refine cc ?_ ?_ <;> intro hcond) | (apply X.gsE; (· exact aR); (· exact aV); (· exact aW); (· intro hc; first | exact .callG rfl rfl rfl (c1) rfl | exact bg (c1)); (· exact aR)) | refine rb ?_ | refine nd ?_ | refine dk ?_ | fail)
    exact rq ⟨[(8, .osl 7)], [(7, .row 140 10 0 [])]⟩ (tq [(7, .nil)] [])
  | some p =>
    obtain ⟨hp, hid⟩ := poAt_mem hpo
    rw [hpo] at c1
    simp only [Option.getD_some, Option.getD_none, Option.isSome_some, Option.isSome_none] at c1
    try dsimp only
    have c2 := switchOf_T c p.sw hc.small
    have es : swOf c.ss p.sw = swAt c.ss p.sw := rfl
    rw [es] at c2
    have hs := hc.swIn hp
    have hsr := hc.sr _ hs.1
    unfold SwR at hsr
    by_cases hbad : p.ch ≠ ch ∨ f.src ≠ p.mac ∨ f.ipSrc ≠ p.ip
    · rw [if_pos hbad]
      repeat' (first | (apply X.loE; (· exact aR); (· first | exact .callL rfl rfl rfl (c1) rfl | exact bl (c1))) | refine X.loc ?_ | (refine X.cdT ?_ rfl (by first |(simp only [Bool.not_false, Bool.true_or, Bool.or_true]; done) |(simp only [Bool.not_true, Bool.not_false, Bool.false_or, Bool.or_false, Bool.true_or, Bool.or_eq_true, bne_iff_ne, ne_eq]; omega) |fail)) | (refine X.cdF ?_ rfl (by first |(simp only [Bool.not_true, Bool.false_or, Bool.or_false, Bool.or_eq_false_iff, bne_eq_false_iff_eq]; omega) |fail)) | refine nx ?_ | refine X.cdT ?_ | refine X.cdF ?_ | refine cb ?_ ?_ | (refine cc ?_ ?_ <;> intro hcond) | (apply X.gsE; (· exact aR); (· exact aV); (· exact aW); (· intro hc; first | exact .callG rfl rfl rfl (c1) rfl | exact bg (c1)); (· exact aR)) | refine rb ?_ | refine nd ?_ | refine dk ?_ | fail)
      exact rq ⟨[(8, .osl 7)], [(7, .row 140 10 0 [])]⟩ (tq [(7, .nil)] [])
    rw [if_neg hbad]
    by_cases hk1 : f.kind = 1
    · rw [if_pos hk1]
      unfold askG
      generalize swAt c.ss p.sw = s at *
      by_cases hg : 0 < s.gate ∧ s.gate = f.ipDst
      · rw [if_pos hg]
        unfold tellG
        rw [hid]
        repeat' (first | (apply X.loE; (· exact aR); (· first | exact .callL rfl rfl rfl (by first | exact c1 | exact c2) rfl | exact bl (c1) | exact bl (c2))) | refine X.loc ?_ | (refine X.cdT ?_ rfl (by first |(simp only [Bool.not_false, Bool.true_or, Bool.or_true]; done) |(simp only [Bool.not_true, Bool.not_false, Bool.false_or, Bool.or_false, Bool.true_or, Bool.or_eq_true, bne_iff_ne, ne_eq]; omega) |fail)) | (refine X.cdF ?_ rfl (by first |(simp only [Bool.not_true, Bool.false_or, Bool.or_false, Bool.or_eq_false_iff, bne_eq_false_iff_eq]; omega) |fail)) | refine nx ?_ | refine X.cdT ?_ | refine X.cdF ?_ | refine cb ?_ ?_ | (refine cc ?_ ?_ <;> intro hcond) | (apply X.gsE; (· exact aR); (· exact aV); (· exact aW); (· intro hc; first | exact .callG rfl rfl rfl (by first | exact c1 | exact c2) rfl | exact bg (c1) | exact bg (c2)); (· exact aR)) | refine rb ?_ | refine nd ?_ | refine dk ?_ | fail)
        exact rq ⟨[(8, .osl 7)], [(7, .row 140 10 1 ((encGl ⟨s.id, id, ⟨p.mac, 60000 + s.id, 2, f.ipDst, p.ip, 0, 0, ⟨#[]⟩⟩⟩).map .fv))]⟩ (tq [(7, .id 86)] [])
      · rw [if_neg hg]
        repeat' (first | (apply X.loE; (· exact aR); (· first | exact .callL rfl rfl rfl (by first | exact c1 | exact c2) rfl | exact bl (c1) | exact bl (c2))) | refine X.loc ?_ | (refine X.cdT ?_ rfl (by first |(simp only [Bool.not_false, Bool.true_or, Bool.or_true]; done) |(simp only [Bool.not_true, Bool.not_false, Bool.false_or, Bool.or_false, Bool.true_or, Bool.or_eq_true, bne_iff_ne, ne_eq]; omega) |fail)) | (refine X.cdF ?_ rfl (by first |(simp only [Bool.not_true, Bool.false_or, Bool.or_false, Bool.or_eq_false_iff, bne_eq_false_iff_eq]; omega) |fail)) | refine nx ?_ | refine X.cdT ?_ | refine X.cdF ?_ | refine cb ?_ ?_ | (refine cc ?_ ?_ <;> intro hcond) | (apply X.gsE; (· exact aR); (· exact aV); (· exact aW); (· intro hc; first | exact .callG rfl rfl rfl (by first | exact c1 | exact c2) rfl | exact bg (c1) | exact bg (c2)); (· exact aR)) | refine rb ?_ | refine nd ?_ | refine dk ?_ | fail)
        refine WP.loop (ι := Nat) (fun k => ⟨[(2, .fv (.int .i64 id)), (4, .optr 4 0), (7, .optr 7 0), (9, .optr 9 0), (11, .optr 11 0), (13, .optr 13 0), (14, .fv (.int .i64 k))], [(4, .box 26 ((encCf c).map .fv)), (7, .box 28 ((encFr f).map .fv)), (9, .box 69 ((encPo p).map .fv)), (11, .box 44 ((encSw s).map .fv)), (13, .box 28 ((encFr ⟨p.mac, 0, 2, f.ipDst, p.ip, 0, 0, ⟨#[]⟩⟩).map .fv))]⟩) (fun k => k ≤ c.ps.length ∧ ∀ q ∈ c.ps.take k, askB f s p.id q = false) (fun k => c.ps.length - k) 0 ⟨by omega, by simp⟩ ?_ ?_
        · exact tq [] []
        rintro k ⟨hk, hd⟩
        try dsimp only
        by_cases hlt : k < c.ps.length
        case neg =>
          rw [List.take_of_length_le (by omega)] at hd
          rw [List.find?_eq_none.2 fun q hq => by rw [hd q hq]; simp]
          repeat' (first | refine X.loc ?_ | refine nx ?_ | refine X.cdT ?_ | refine X.cdF ?_ | refine cb ?_ ?_ | (refine cc ?_ ?_ <;> intro hcond) | refine rb ?_ | refine nd ?_ | refine dk ?_ | fail)
          exact rq ⟨[(8, .osl 7)], [(7, .row 140 10 0 [])]⟩ (tq [(7, .nil)] [])
        case pos =>
          obtain ⟨x, hx⟩ : ∃ x, c.ps[k]? = some x := ⟨_, List.getElem?_eq_getElem hlt⟩
          by_cases hq : x.sw = s.id ∧ x.ip = f.ipDst ∧ x.id ≠ id
          · have hfd : c.ps.find? (askB f s p.id) = some x := find_ix hx (by simp [askB, hq, hid]) fun j y hj hy => hd y (List.mem_of_getElem? (i := j) (by rw [List.getElem?_take, if_pos hj]; exact hy))
            rw [hfd]
            unfold tellG
            rw [hid]
            repeat' (first | (apply X.loE; (· exact aR); (· first | (exact .eff (.idxS rfl rfl rfl encPo_len hx)))) | refine X.loc ?_ | refine nx ?_ | refine X.cdT ?_ | refine X.cdF ?_ | refine cb ?_ ?_ | (refine cc ?_ ?_ <;> intro hcond) | (apply X.gsE; (· exact aR); (· exact aV); (· exact aW); (· intro hc; first | (exact .eff (.idxS rfl rfl rfl encPo_len hx))); (· exact aR)) | refine rb ?_ | refine nd ?_ | refine dk ?_ | fail)
            exact rq ⟨[(8, .osl 7)], [(7, .row 140 10 1 ((encGl ⟨s.id, id, ⟨p.mac, x.mac, 2, f.ipDst, p.ip, 0, 0, ⟨#[]⟩⟩⟩).map .fv))]⟩ (tq [(7, .id 125)] [])
          · skip
            repeat' (first | (apply X.loE; (· exact aR); (· first | (exact .eff (.idxS rfl rfl rfl encPo_len hx)))) | refine X.loc ?_ | refine nx ?_ | refine X.cdT ?_ | refine X.cdF ?_ | refine cb ?_ ?_ | (refine cc ?_ ?_ <;> intro hcond) | (apply X.gsE; (· exact aR); (· exact aV); (· exact aW); (· intro hc; first | (exact .eff (.idxS rfl rfl rfl encPo_len hx))); (· exact aR)) | refine rb ?_ | refine nd ?_ | refine dk ?_ | fail)
            refine ⟨k + 1, ⟨by omega, fun q hqm => ?_⟩, by omega, ?_⟩
            · rw [take_succ hx] at hqm
              rcases List.mem_append.1 hqm with hqm | hqm
              · exact hd q hqm
              · obtain rfl := List.mem_singleton.1 hqm
                rw [Bool.eq_false_iff]
                intro h
                simp only [askB, Bool.and_eq_true, beq_iff_eq, bne_iff_ne] at h
                exact hq ⟨h.1, h.2.1, by rw [← hid]; exact h.2.2⟩
            · exact tq [] []
    rw [if_neg hk1]
    unfold dataG
    have ca := allows_T c hc (swAt c.ss p.sw).id true f hf
    by_cases hk3 : f.kind = 3
    case neg =>
      rw [if_pos (.inl hk3)]
      repeat' (first | (apply X.loE; (· exact aR); (· first | exact .callL rfl rfl rfl (by first | exact c1 | exact c2 | exact ca) rfl | exact bl (c1) | exact bl (c2) | exact bl (ca))) | refine X.loc ?_ | (refine X.cdT ?_ rfl (by first |(simp only [Bool.not_false, Bool.true_or, Bool.or_true]; done) |(simp only [Bool.not_true, Bool.not_false, Bool.false_or, Bool.or_false, Bool.true_or, Bool.or_eq_true, bne_iff_ne, ne_eq]; omega) |fail)) | (refine X.cdF ?_ rfl (by first |(simp only [Bool.not_true, Bool.false_or, Bool.or_false, Bool.or_eq_false_iff, bne_eq_false_iff_eq]; omega) |fail)) | refine nx ?_ | refine X.cdT ?_ | refine X.cdF ?_ | refine cb ?_ ?_ | (refine cc ?_ ?_ <;> intro hcond) | (apply X.gsE; (· exact aR); (· exact aV); (· exact aW); (· intro hc; first | exact .callG rfl rfl rfl (by first | exact c1 | exact c2 | exact ca) rfl | exact bg (c1) | exact bg (c2) | exact bg (ca)); (· exact aR)) | refine rb ?_ | refine nd ?_ | refine dk ?_ | fail)
      exact rq ⟨[(8, .osl 7)], [(7, .row 140 10 0 [])]⟩ (tq [(7, .nil)] [])
    cases ha : allowB c (swAt c.ss p.sw).id true f.ipSrc f.ipDst f.port with
    | false =>
      rw [ha] at ca
      rw [if_pos (.inr rfl)]
      repeat' (first | (apply X.loE; (· exact aR); (· first | exact .callL rfl rfl rfl (by first | exact c1 | exact c2 | exact ca) rfl | exact bl (c1) | exact bl (c2) | exact bl (ca))) | refine X.loc ?_ | (refine X.cdT ?_ rfl (by first |(simp only [Bool.not_false, Bool.true_or, Bool.or_true]; done) |(simp only [Bool.not_true, Bool.not_false, Bool.false_or, Bool.or_false, Bool.true_or, Bool.or_eq_true, bne_iff_ne, ne_eq]; omega) |fail)) | (refine X.cdF ?_ rfl (by first |(simp only [Bool.not_true, Bool.false_or, Bool.or_false, Bool.or_eq_false_iff, bne_eq_false_iff_eq]; omega) |fail)) | refine nx ?_ | refine X.cdT ?_ | refine X.cdF ?_ | refine cb ?_ ?_ | (refine cc ?_ ?_ <;> intro hcond) | (apply X.gsE; (· exact aR); (· exact aV); (· exact aW); (· intro hc; first | exact .callG rfl rfl rfl (by first | exact c1 | exact c2 | exact ca) rfl | exact bg (c1) | exact bg (c2) | exact bg (ca)); (· exact aR)) | refine rb ?_ | refine nd ?_ | refine dk ?_ | fail)
      exact rq ⟨[(8, .osl 7)], [(7, .row 140 10 0 [])]⟩ (tq [(7, .nil)] [])
    | true =>
      rw [ha] at ca
      rw [if_neg (by simp [hk3])]
      have hgl := fun k => flat_len_le (f := goalQ c p f) (goalQ_len c p f) hpl k
      have hQ : ∀ q, goalQ c p f q = if q.ch < 0 then [] else
          (if q.sw = (swAt c.ss p.sw).id ∧ q.id ≠ p.id ∧ (f.dst = 65535 ∨ f.dst = q.mac) then [⟨(swAt c.ss p.sw).id, q.id, f⟩] else []) ++
          (if 0 < (swAt c.ss p.sw).gate ∧ f.dst = 60000 + (swAt c.ss p.sw).id ∧ 1 < f.ttl ∧ (swAt c.ss q.sw).tenant = (swAt c.ss p.sw).tenant ∧ 0 < (swAt c.ss q.sw).gate ∧ q.ip = f.ipDst then [⟨(swAt c.ss q.sw).id, q.id, ledFr f q (swAt c.ss q.sw)⟩] else []) := fun _ => rfl
      generalize goalQ c p f = Q at *
      generalize swAt c.ss p.sw = s at *
      repeat' (first | (apply X.loE; (· exact aR); (· first | exact .callL rfl rfl rfl (by first | exact c1 | exact c2 | exact ca) rfl | exact bl (c1) | exact bl (c2) | exact bl (ca))) | refine X.loc ?_ | (refine X.cdT ?_ rfl (by first |(simp only [Bool.not_false, Bool.true_or, Bool.or_true]; done) |(simp only [Bool.not_true, Bool.not_false, Bool.false_or, Bool.or_false, Bool.true_or, Bool.or_eq_true, bne_iff_ne, ne_eq]; omega) |fail)) | (refine X.cdF ?_ rfl (by first |(simp only [Bool.not_true, Bool.false_or, Bool.or_false, Bool.or_eq_false_iff, bne_eq_false_iff_eq]; omega) |fail)) | refine nx ?_ | refine X.cdT ?_ | refine X.cdF ?_ | refine cb ?_ ?_ | (refine cc ?_ ?_ <;> intro hcond) | (apply X.gsE; (· exact aR); (· exact aV); (· exact aW); (· intro hc; first | exact .callG rfl rfl rfl (by first | exact c1 | exact c2 | exact ca) rfl | exact bg (c1) | exact bg (c2) | exact bg (ca)); (· exact aR)) | refine rb ?_ | refine nd ?_ | refine dk ?_ | fail)
      refine WP.loop (ι := Nat) (fun k => ⟨[(2, .fv (.int .i64 id)), (4, .optr 4 0), (7, .optr 7 0), (9, .optr 9 0), (11, .optr 11 0), (16, .osl 900), (17, .fv (.int .i64 k))], [(4, .box 26 ((encCf c).map .fv)), (7, .box 28 ((encFr f).map .fv)), (9, .box 69 ((encPo p).map .fv)), (11, .box 44 ((encSw s).map .fv)), (900, .row 140 10 ((c.ps.take k).flatMap Q).length ((((c.ps.take k).flatMap Q).flatMap encGl).map .fv))]⟩) (fun k => k ≤ c.ps.length) (fun k => c.ps.length - k) 0 (by omega) ?_ ?_
      · try dsimp only
        rw [List.take_zero, List.flatMap_nil]
        exact tq [(900, .nil)] []
      rintro k hk
      try dsimp only
      have hOl := hgl k
      by_cases hlt : k < c.ps.length
      case neg =>
        rw [List.take_of_length_le (by omega)]
        generalize c.ps.flatMap Q = O at *
        repeat' (first | refine X.loc ?_ | refine nx ?_ | refine X.cdT ?_ | refine X.cdF ?_ | refine cb ?_ ?_ | (refine cc ?_ ?_ <;> intro hcond) | refine rb ?_ | refine nd ?_ | refine dk ?_ | fail)
        exact rq ⟨[(8, .osl 7)], [(7, .row 140 10 O.length ((O.flatMap encGl).map .fv))]⟩ (tq [(7, .id 900)] [])
      case pos =>
        obtain ⟨x, hx⟩ : ∃ x, c.ps[k]? = some x := ⟨_, List.getElem?_eq_getElem hlt⟩
        have hxm := List.mem_of_getElem? hx
        have c3 := switchOf_T c x.sw hc.small
        have es : swOf c.ss x.sw = swAt c.ss x.sw := rfl
        rw [es] at c3
        have ht := hc.swIn hxm
        have htr := hc.sr _ ht.1
        unfold SwR at htr
        have hsn := flat_succ [] Q hx
        rw [List.nil_append, List.nil_append, hQ x] at hsn
        generalize (c.ps.take k).flatMap Q = O at *
        generalize swAt c.ss x.sw = t at *
        by_cases hx0 : x.ch < 0
        · rw [if_pos hx0, List.append_nil] at hsn
          repeat' (first | (apply X.loE; (· exact aR); (· first | (exact .eff (.idxS rfl rfl rfl encPo_len hx)) | exact .callL rfl rfl rfl (c3) rfl | exact bl (c3))) | refine X.loc ?_ | refine nx ?_ | refine X.cdT ?_ | refine X.cdF ?_ | refine cb ?_ ?_ | (refine cc ?_ ?_ <;> intro hcond) | (apply X.gsE; (· exact aR); (· exact aV); (· exact aW); (· intro hc; first | (exact .eff (.idxS rfl rfl rfl encPo_len hx)) | exact .callG rfl rfl rfl (c3) rfl | exact bg (c3)); (· exact aR)) | refine rb ?_ | refine nd ?_ | refine dk ?_ | fail)
          refine ⟨k + 1, by omega, by omega, ?_⟩
          try dsimp only
          rw [hsn]
          exact tq [] []
        rw [if_neg hx0] at hsn
        by_cases h1 : x.sw = s.id ∧ x.id ≠ p.id ∧ (f.dst = 65535 ∨ f.dst = x.mac)
        · have n2 : ¬ (0 < s.gate ∧ f.dst = 60000 + s.id ∧ 1 < f.ttl ∧ t.tenant = s.tenant ∧ 0 < t.gate ∧ x.ip = f.ipDst) := fun h => by
            have := (hc.pg x hxm).1.2.1
            rcases h1.2.2 with h3 | h3 <;> omega
          rw [if_pos h1, if_neg n2, List.append_nil] at hsn
          repeat' (first | (apply X.loE; (· exact aR); (· first | (exact .eff (.idxS rfl rfl rfl encPo_len hx)) | exact .callL rfl rfl rfl (c3) rfl | exact bl (c3))) | refine X.loc ?_ | refine nx ?_ | refine X.cdT ?_ | refine X.cdF ?_ | refine cb ?_ ?_ | (refine cc ?_ ?_ <;> intro hcond) | (apply X.gsE; (· exact aR); (· exact aV); (· exact aW); (· intro hc; first | (exact .eff (.idxS rfl rfl rfl encPo_len hx)) | exact .callG rfl rfl rfl (c3) rfl | exact bg (c3)); (· exact aR)) | refine rb ?_ | refine nd ?_ | refine dk ?_ | fail)
          refine ⟨k + 1, by omega, by omega, ?_⟩
          try dsimp only
          rw [hsn]
          refine St.to [(900, .id 190)] [] rfl rfl ?_ ?_ <;> (repeat' (first | exact tA | refine t1 ?_ | exact tB | refine t2 ?_ ?_ | refine t3 ?_ | refine t4 ?_ ?_ | refine .ofEq ?_ | refine OB.To.cut rfl rfl ?_ ?_ ?_ ?_ | refine OB.To.box rfl rfl ?_ | refine ⟨⟨_, rfl, ?_⟩, ?_⟩ | refine ⟨?_, ?_⟩ | fail))
          all_goals first | omega | (simp; done) | (simp only [List.flatMap_append, List.map_append]; rfl)
        · rw [if_neg h1, List.nil_append] at hsn
          by_cases h2 : 0 < s.gate ∧ f.dst = 60000 + s.id ∧ 1 < f.ttl ∧ t.tenant = s.tenant ∧ 0 < t.gate ∧ x.ip = f.ipDst
          · rw [if_pos h2] at hsn
            unfold ledFr at hsn
            repeat' (first | (apply X.loE; (· exact aR); (· first | (exact .eff (.idxS rfl rfl rfl encPo_len hx)) | exact .callL rfl rfl rfl (c3) rfl | exact bl (c3))) | refine X.loc ?_ | refine nx ?_ | refine X.cdT ?_ | refine X.cdF ?_ | refine cb ?_ ?_ | (refine cc ?_ ?_ <;> intro hcond) | (apply X.gsE; (· exact aR); (· exact aV); (· exact aW); (· intro hc; first | (exact .eff (.idxS rfl rfl rfl encPo_len hx)) | exact .callG rfl rfl rfl (c3) rfl | exact bg (c3)); (· exact aR)) | refine rb ?_ | refine nd ?_ | refine dk ?_ | fail)
            refine ⟨k + 1, by omega, by omega, ?_⟩
            try dsimp only
            rw [hsn]
            refine St.to [(900, .id 246)] [] rfl rfl ?_ ?_ <;> (repeat' (first | exact tA | refine t1 ?_ | exact tB | refine t2 ?_ ?_ | refine t3 ?_ | refine t4 ?_ ?_ | refine .ofEq ?_ | refine OB.To.cut rfl rfl ?_ ?_ ?_ ?_ | refine OB.To.box rfl rfl ?_ | refine ⟨⟨_, rfl, ?_⟩, ?_⟩ | refine ⟨?_, ?_⟩ | fail))
            all_goals first | omega | (simp; done) | (simp only [List.flatMap_append, List.map_append]; rfl)
          · rw [if_neg h2, List.append_nil] at hsn
            repeat' (first | (apply X.loE; (· exact aR); (· first | (exact .eff (.idxS rfl rfl rfl encPo_len hx)) | exact .callL rfl rfl rfl (c3) rfl | exact bl (c3))) | refine X.loc ?_ | refine nx ?_ | refine X.cdT ?_ | refine X.cdF ?_ | refine cb ?_ ?_ | (refine cc ?_ ?_ <;> intro hcond) | (apply X.gsE; (· exact aR); (· exact aV); (· exact aW); (· intro hc; first | (exact .eff (.idxS rfl rfl rfl encPo_len hx)) | exact .callG rfl rfl rfl (c3) rfl | exact bg (c3)); (· exact aR)) | refine rb ?_ | refine nd ?_ | refine dk ?_ | fail)
            refine ⟨k + 1, by omega, by omega, ?_⟩
            try dsimp only
            rw [hsn]
            exact tq [] []
theorem ledOf_T (c : Cf) (hc : CfOk c) (ch id : Int) (f : Fr) (hf : FrMay f) : Fun Tryz.prog 82 [.agg ((encCf c).map .fv), .fv (.int .i64 ch), .fv (.int .i64 id), .agg ((encFr f).map .fv)] (.fv (slOf encGl (ledF c ch id f))) :=
  (ledOf0_T c hc ch id f hf).froz [7] (.frz rfl rfl rfl)
set_option maxHeartbeats 4000000 in
theorem comes_T (c : Cf) (hc : CfOk c) (ch : Int) (g : Gl) (hg : FrMay g.is) : Fun Tryz.prog 83 [.agg ((encCf c).map .fv), .fv (.int .i64 ch), .agg ((encGl g).map .fv)] (.fv (.bool (comesG c ch g))) := by
  have c1 := portOf_T c g.to hc.small
  rw [po_any] at c1
  have ep : (c.ps.find? fun p => p.id == g.to) = poAt c g.to := rfl
  rw [ep] at c1
  have ca := allows_T c hc g.net false g.is hg
  refine Fun.body tbl_ok Tryz.func83 rfl (by kernel_rfl) rfl rfl rfl ?_
  unfold comesG
  cases hpo : poAt c g.to with
  | none =>
    rw [hpo] at c1
    simp only [Option.getD_some, Option.getD_none, Option.isSome_some, Option.isSome_none] at c1
    repeat' (first | (apply X.loE; (· exact aR); (· first | exact .callL rfl rfl rfl (c1) rfl | exact bl (c1))) | refine X.loc ?_ | (refine X.cdT ?_ rfl (by first |(simp only [Bool.not_false, Bool.true_or, Bool.or_true]; done) |(simp only [Bool.not_true, Bool.not_false, Bool.false_or, Bool.or_false, Bool.true_or, Bool.or_eq_true, bne_iff_ne, ne_eq]; omega) |fail)) | (refine X.cdF ?_ rfl (by first |(simp only [Bool.not_true, Bool.false_or, Bool.or_false, Bool.or_eq_false_iff, bne_eq_false_iff_eq]; omega) |fail)) | refine nx ?_ | refine X.cdT ?_ | refine X.cdF ?_ | refine cb ?_ ?_ | (refine cc ?_ ?_ <;> intro hcond) | (apply X.gsE; (· exact aR); (· exact aV); (· exact aW); (· intro hc; first | exact .callG rfl rfl rfl (c1) rfl | exact bg (c1)); (· exact aR)) | refine rb ?_ | refine nd ?_ | refine dk ?_ | fail)
    exact .f1 (.inl rfl) rfl rfl
  | some q =>
    rw [hpo] at c1
    simp only [Option.getD_some, Option.getD_none, Option.isSome_some, Option.isSome_none] at c1
    try dsimp only
    generalize allowB c g.net false g.is.ipSrc g.is.ipDst g.is.port = b at *
    by_cases h1 : q.ch = ch ∧ q.sw = g.net
    · have e1 : (q.ch == ch && (q.sw == g.net && (g.is.kind == 2 || b))) = (g.is.kind == 2 || b) := by simp [h1]
      rw [e1]
      repeat' (first | (apply X.loE; (· exact aR); (· first | exact .callL rfl rfl rfl (by first | exact c1 | exact ca) rfl | exact bl (c1) | exact bl (ca))) | refine X.loc ?_ | (refine X.cdT ?_ rfl (by first |(simp only [Bool.not_false, Bool.true_or, Bool.or_true]; done) |(simp only [Bool.not_true, Bool.not_false, Bool.false_or, Bool.or_false, Bool.true_or, Bool.or_eq_true, bne_iff_ne, ne_eq]; omega) |fail)) | (refine X.cdF ?_ rfl (by first |(simp only [Bool.not_true, Bool.false_or, Bool.or_false, Bool.or_eq_false_iff, bne_eq_false_iff_eq]; omega) |fail)) | refine nx ?_ | refine X.cdT ?_ | refine X.cdF ?_ | refine cb ?_ ?_ | (refine cc ?_ ?_ <;> intro hcond) | (apply X.gsE; (· exact aR); (· exact aV); (· exact aW); (· intro hc; first | exact .callG rfl rfl rfl (by first | exact c1 | exact ca) rfl | exact bg (c1) | exact bg (ca)); (· exact aR)) | refine rb ?_ | refine nd ?_ | refine dk ?_ | fail)
      exact .f1 (.inl rfl) rfl rfl
    · have e1 : (q.ch == ch && (q.sw == g.net && (g.is.kind == 2 || b))) = false := by
        rw [Bool.eq_false_iff]
        intro h
        simp only [Bool.and_eq_true, beq_iff_eq] at h
        exact h1 ⟨h.1, h.2.1⟩
      rw [e1]
      repeat' (first | (apply X.loE; (· exact aR); (· first | exact .callL rfl rfl rfl (by first | exact c1 | exact ca) rfl | exact bl (c1) | exact bl (ca))) | refine X.loc ?_ | (refine X.cdT ?_ rfl (by first |(simp only [Bool.not_false, Bool.true_or, Bool.or_true]; done) |(simp only [Bool.not_true, Bool.not_false, Bool.false_or, Bool.or_false, Bool.true_or, Bool.or_eq_true, bne_iff_ne, ne_eq]; omega) |fail)) | (refine X.cdF ?_ rfl (by first |(simp only [Bool.not_true, Bool.false_or, Bool.or_false, Bool.or_eq_false_iff, bne_eq_false_iff_eq]; omega) |fail)) | refine nx ?_ | refine X.cdT ?_ | refine X.cdF ?_ | refine cb ?_ ?_ | (refine cc ?_ ?_ <;> intro hcond) | (apply X.gsE; (· exact aR); (· exact aV); (· exact aW); (· intro hc; first | exact .callG rfl rfl rfl (by first | exact c1 | exact ca) rfl | exact bg (c1) | exact bg (ca)); (· exact aR)) | refine rb ?_ | refine nd ?_ | refine dk ?_ | fail)
      exact .f1 (.inl rfl) rfl rfl
theorem encCf_len (c : Cf) : (encCf c).length = 3 := rfl
def ksOf (K : Kn) : List Cf := K.map cfK
theorem ksOf_at {K : Kn} {n : Nat} (h : n < K.length) : (ksOf K)[n]? = some (cfAt K n) := by
  unfold ksOf cfAt
  rw [List.getElem?_map, Int.toNat_natCast, List.getD_eq_getElem?_getD, List.getElem?_eq_getElem h]
  rfl
theorem readCf {l : List Cf} {i off : Nat} {x : Cf} (h : off = i * 3) (hx : l[i]? = some x) : readA tbl 26 off ((l.flatMap encCf).map .fv) = some (.agg ((encCf x).map .fv)) := by
  unfold readA
  rw [readE encCf_len h hx]
  generalize ((l.drop (i + 1)).flatMap encCf).map AV.fv = r
  cases r with
  | nil => rfl
  | cons a r => rfl
theorem led_len (c : Cf) (hc : CfOk c) (ch id : Int) (f : Fr) : (ledF c ch id f).length ≤ 80 := by
  have hpl := hc.pl
  unfold ledF
  split
  · simp
  · split
    · simp
    · split
      · unfold askG
        split
        · simp
        · split <;> simp
      · rename_i p _ _ _
        unfold dataG
        split
        · simp
        · have := flat_bound (f := goalQ c p f) (n := 2) (l := c.ps) fun q _ => goalQ_len c p f q
          omega
def arrN (K : Kn) (ch : Int) (n : Nat) (g : Gl) : List Ar := if g.to = (n : Int) then arrG K ch g else []
theorem arrN_len (K : Kn) (ch : Int) (n : Nat) (g : Gl) : (arrN K ch n g).length ≤ 1 := by
  unfold arrN arrG
  split
  · split
    · split <;> simp
    · simp
  · simp
set_option maxHeartbeats 16000000 in
theorem sentOf_T (K : Kn) (hK : KnOk K) (h6 : K.length = 6) (ch id : Int) (hch : 0 ≤ ch ∧ ch ≤ 5) (f : Fr) (hff : frameFault f = 0) : FunO Tryz.prog 50 [.osl 1000, .fv (.int .i64 ch), .fv (.int .i64 id), .agg ((encFr f).map .fv)] [(1000, .row 26 3 (ksOf K).length (((ksOf K).flatMap encCf).map .fv))] (.osl 7) [(7, .row 41 9 (sentOfF K ch id f).length (((sentOfF K ch id f).flatMap encAr).map .fv)), (1000, .row 26 3 (ksOf K).length (((ksOf K).flatMap encCf).map .fv))] := by
  have hf := frMay hff
  obtain ⟨m, rfl⟩ := Int.eq_ofNat_of_zero_le hch.1
  have hks := ksOf_at (K := K) (n := m) (by omega)
  have hkl : (ksOf K).length = 6 := by unfold ksOf; rw [List.length_map]; exact h6
  have c1 := ledOf_T (cfAt K m) (hK.cf m) m id f hf
  have hG : ∀ g ∈ ledF (cfAt K m) m id f, GlOk (cfAt K m) g := fun g hg => led_ok (hK.cf m) hch hff hg
  have hGl := led_len (cfAt K m) (hK.cf m) m id f
  have hsm := (hK.cf m).small
  have es : sentOfF K m id f = (List.range 1000).flatMap fun n : Nat => (ledF (cfAt K m) m id f).flatMap (arrN K m n) := rfl
  rw [es]
  have hP := fun n g => arrN_len K m n g
  have hA : ∀ n g, arrN K m n g = if g.to = (n : Int) then (match poAt (cfAt K m) g.to with | some q => if comesG (cfAt K q.ch) q.ch g = true then [⟨g.to, g.is⟩] else [] | none => []) else [] := fun _ _ => rfl
  generalize arrN K m = F at *
  generalize ledF (cfAt K m) m id f = G at *
  have hFl : ∀ n, (G.flatMap (F n)).length ≤ 80 := fun n => by
    have := flat_bound (f := F n) (n := 1) (l := G) fun g _ => hP n g
    omega
  have hOl := fun k : Nat => flat_bound (f := fun n => G.flatMap (F n)) (n := 80) (l := List.range k) fun n _ => hFl n
  refine FunO.bodyL tbl_ok Tryz.func50 rfl (by kernel_rfl) rfl rfl rfl ?_
  repeat' (first | (apply X.loE; (· exact aR); (· first | (exact .eff (.loadO rfl rfl (readCf (i := m) (by omega) hks))) | exact .callL rfl rfl rfl (c1) rfl | exact bl (c1))) | refine X.loc ?_ | refine nx ?_ | refine X.cdT ?_ | refine X.cdF ?_ | refine cb ?_ ?_ | (refine cc ?_ ?_ <;> intro hcond) | (apply X.gsE; (· exact aR); (· exact aV); (· exact aW); (· intro hc; first | (exact .eff (.loadO rfl rfl (readCf (i := m) (by omega) hks))) | exact .callG rfl rfl rfl (c1) rfl | exact bg (c1)); (· exact aR)) | refine rb ?_ | refine nd ?_ | refine dk ?_ | fail)
  refine WP.loop (ι := Nat) (fun n => ⟨[(0, .osl 1000), (1, .fv (.int .i64 m)), (2, .fv (.int .i64 id)), (9, .fv (slOf encGl G)), (10, .osl 900), (11, .fv (.int .i64 n))], [(1000, .row 26 3 (ksOf K).length (((ksOf K).flatMap encCf).map .fv)), (900, .row 41 9 ((List.range n).flatMap fun n => G.flatMap (F n)).length ((((List.range n).flatMap fun n => G.flatMap (F n)).flatMap encAr).map .fv))]⟩) (fun n => n ≤ 1000) (fun n => 1000 - n) 0 (by omega) ?_ ?_
  · try dsimp only
    rw [List.range_zero, List.flatMap_nil]
    exact tq [(900, .nil)] []
  rintro n hn
  try dsimp only
  by_cases hlt : n < 1000
  case neg =>
    obtain rfl : n = 1000 := by omega
    generalize ((List.range 1000).flatMap fun n : Nat => G.flatMap (F n)) = O at *
    repeat' (first | refine X.loc ?_ | refine nx ?_ | refine X.cdT ?_ | refine X.cdF ?_ | refine cb ?_ ?_ | (refine cc ?_ ?_ <;> intro hcond) | refine rb ?_ | refine nd ?_ | refine dk ?_ | fail)
    exact rq ⟨[(8, .osl 7)], [(7, .row 41 9 O.length ((O.flatMap encAr).map .fv)), (1000, .row 26 3 (ksOf K).length (((ksOf K).flatMap encCf).map .fv))]⟩ (tq [(7, .id 900)] [])
  case pos =>
    have hon := hOl n
    rw [List.length_range] at hon
    have hsn : ((List.range (n + 1)).flatMap fun n => G.flatMap (F n)) = ((List.range n).flatMap fun n => G.flatMap (F n)) ++ G.flatMap (F n) := by
      rw [List.range_succ, List.flatMap_append, List.flatMap_singleton]
    generalize ((List.range n).flatMap fun n => G.flatMap (F n)) = O at *
    repeat' (first | refine X.loc ?_ | refine nx ?_ | refine X.cdT ?_ | refine X.cdF ?_ | refine cb ?_ ?_ | (refine cc ?_ ?_ <;> intro hcond) | refine rb ?_ | refine nd ?_ | refine dk ?_ | fail)
    refine WP.loop (ι := Nat) (fun k => ⟨[(0, .osl 1000), (1, .fv (.int .i64 m)), (2, .fv (.int .i64 id)), (9, .fv (slOf encGl G)), (10, .osl 901), (11, .fv (.int .i64 n)), (12, .fv (.int .i64 k))], [(1000, .row 26 3 (ksOf K).length (((ksOf K).flatMap encCf).map .fv)), (901, .row 41 9 (O ++ (G.take k).flatMap (F n)).length (((O ++ (G.take k).flatMap (F n)).flatMap encAr).map .fv))]⟩) (fun k => k ≤ G.length) (fun k => G.length - k) 0 (by omega) ?_ ?_
    · try dsimp only
      rw [List.take_zero, List.flatMap_nil, List.append_nil]
      exact tq [(901, .id 900)] []
    rintro k hk
    try dsimp only
    by_cases hk2 : k < G.length
    case neg =>
      rw [List.take_of_length_le (by omega)]
      generalize (O ++ G.flatMap (F n)) = O2 at *
      repeat' (first | refine X.loc ?_ | refine nx ?_ | refine X.cdT ?_ | refine X.cdF ?_ | refine cb ?_ ?_ | (refine cc ?_ ?_ <;> intro hcond) | refine rb ?_ | refine nd ?_ | refine dk ?_ | fail)
      refine ⟨n + 1, by omega, by omega, ?_⟩
      try dsimp only
      rw [hsn]
      exact tq [(900, .id 901)] []
    case pos =>
      obtain ⟨g, hg⟩ : ∃ g, G[k]? = some g := ⟨_, List.getElem?_eq_getElem hk2⟩
      have hgo := hG g (List.mem_of_getElem? hg)
      have hk3 := flat_bound (f := F n) (n := 1) (l := G.take k) fun g _ => hP n g
      rw [List.length_take] at hk3
      have hsk := flat_succ O (F n) hg
      rw [hA n g] at hsk
      have hql : (O ++ (G.take k).flatMap (F n)).length ≤ 80100 := by
        rw [List.length_append]
        omega
      generalize (O ++ (G.take k).flatMap (F n)) = Q at *
      by_cases hto : g.to = (n : Int)
      case neg =>
        rw [if_neg hto, List.append_nil] at hsk
        repeat' (first | (apply X.loE; (· exact aR); (· first | (exact .eff (.idxS rfl rfl rfl encGl_len hg)))) | refine X.loc ?_ | refine nx ?_ | refine X.cdT ?_ | refine X.cdF ?_ | refine cb ?_ ?_ | (refine cc ?_ ?_ <;> intro hcond) | (apply X.gsE; (· exact aR); (· exact aV); (· exact aW); (· intro hc; first | (exact .eff (.idxS rfl rfl rfl encGl_len hg))); (· exact aR)) | refine rb ?_ | refine nd ?_ | refine dk ?_ | fail)
        refine ⟨k + 1, by omega, by omega, ?_⟩
        try dsimp only
        rw [hsk]
        exact tq [] []
      case pos =>
        rw [if_pos hto] at hsk
        obtain ⟨_, _, hgf, _, q, hq, hpo, hq0, hq5⟩ := hgo
        have c2 := portOf_T (cfAt K m) n hsm
        have ep : ((cfAt K m).ps.find? fun p => p.id == (n : Int)) = some q := by rw [← hto]; exact hpo
        rw [po_any, ← hto, hpo] at c2
        have ep2 : ((cfAt K m).ps.find? fun p => p.id == g.to) = some q := hpo
        rw [ep2, hto] at c2
        simp only [Option.getD_some, Option.isSome_some] at c2
        obtain ⟨j, hj⟩ := Int.eq_ofNat_of_zero_le hq0
        have hkq := ksOf_at (K := K) (n := j) (by omega)
        rw [← hj] at hkq
        have c3 := comes_T (cfAt K q.ch) (hK.cf q.ch) q.ch g (frMay hgf)
        rw [hpo] at hsk
        try dsimp only at hsk
        cases hb : comesG (cfAt K q.ch) q.ch g with
        | false =>
          rw [hb] at c3 hsk
          rw [if_neg (by decide), List.append_nil] at hsk
          repeat' (first | (apply X.loE; (· exact aR); (· first | (exact .eff (.idxS rfl rfl rfl encGl_len hg)) | (exact .eff (.loadO rfl rfl (readCf (i := m) (by omega) hks))) | (exact .eff (.loadO rfl rfl (readCf (i := j) (by omega) hkq))) | exact .callL rfl rfl rfl (by first | exact c2 | exact c3) rfl | exact bl (c2) | exact bl (c3))) | refine X.loc ?_ | refine nx ?_ | refine X.cdT ?_ | refine X.cdF ?_ | refine cb ?_ ?_ | (refine cc ?_ ?_ <;> intro hcond) | (apply X.gsE; (· exact aR); (· exact aV); (· exact aW); (· intro hc; first | (exact .eff (.idxS rfl rfl rfl encGl_len hg)) | (exact .eff (.loadO rfl rfl (readCf (i := m) (by omega) hks))) | (exact .eff (.loadO rfl rfl (readCf (i := j) (by omega) hkq))) | exact .callG rfl rfl rfl (by first | exact c2 | exact c3) rfl | exact bg (c2) | exact bg (c3)); (· exact aR)) | refine rb ?_ | refine nd ?_ | refine dk ?_ | fail)
          refine ⟨k + 1, by omega, by omega, ?_⟩
          try dsimp only
          rw [hsk]
          exact tq [] []
        | true =>
          rw [hb] at c3 hsk
          rw [if_pos rfl, hto] at hsk
          repeat' (first | (apply X.loE; (· exact aR); (· first | (exact .eff (.idxS rfl rfl rfl encGl_len hg)) | (exact .eff (.loadO rfl rfl (readCf (i := m) (by omega) hks))) | (exact .eff (.loadO rfl rfl (readCf (i := j) (by omega) hkq))) | exact .callL rfl rfl rfl (by first | exact c2 | exact c3) rfl | exact bl (c2) | exact bl (c3))) | refine X.loc ?_ | refine nx ?_ | refine X.cdT ?_ | refine X.cdF ?_ | refine cb ?_ ?_ | (refine cc ?_ ?_ <;> intro hcond) | (apply X.gsE; (· exact aR); (· exact aV); (· exact aW); (· intro hc; first | (exact .eff (.idxS rfl rfl rfl encGl_len hg)) | (exact .eff (.loadO rfl rfl (readCf (i := m) (by omega) hks))) | (exact .eff (.loadO rfl rfl (readCf (i := j) (by omega) hkq))) | exact .callG rfl rfl rfl (by first | exact c2 | exact c3) rfl | exact bg (c2) | exact bg (c3)); (· exact aR)) | refine rb ?_ | refine nd ?_ | refine dk ?_ | fail)
          refine ⟨k + 1, by omega, by omega, ?_⟩
          try dsimp only
          rw [hsk]
          refine St.to [(901, .id 70)] [] rfl rfl ?_ ?_ <;> (repeat' (first | exact tA | refine t1 ?_ | exact tB | refine t2 ?_ ?_ | refine t3 ?_ | refine t4 ?_ ?_ | refine .ofEq ?_ | refine OB.To.cut rfl rfl ?_ ?_ ?_ ?_ | refine OB.To.box rfl rfl ?_ | refine ⟨⟨_, rfl, ?_⟩, ?_⟩ | refine ⟨?_, ?_⟩ | fail))
          all_goals first | omega | (simp; done) | (simp only [List.flatMap_append, List.map_append]; rfl)
theorem goalQ_one {c : Cf} (hc : CfOk c) {p q : Po} (hp : p ∈ c.ps) (hq : q ∈ c.ps) (f : Fr) : (goalQ c p f q).length ≤ 1 := by
  have hs := hc.swIn hp
  have hsr := (hc.sr _ hs.1).1
  have hqr := (hc.pg q hq).1.2.1
  unfold goalQ
  split
  · simp
  · by_cases h1 : q.sw = (swAt c.ss p.sw).id ∧ q.id ≠ p.id ∧ (f.dst = 65535 ∨ f.dst = q.mac)
    · rw [if_pos h1, if_neg (fun h => by rcases h1.2.2 with h3 | h3 <;> omega)]
      simp
    · rw [if_neg h1, List.nil_append]
      split <;> simp
theorem led_len40 {c : Cf} (hc : CfOk c) (ch id : Int) (f : Fr) : (ledF c ch id f).length ≤ 40 := by
  have hpl := hc.pl
  unfold ledF
  split
  · simp
  · rename_i p hpo
    split
    · simp
    · split
      · unfold askG
        split
        · simp
        · split <;> simp
      · unfold dataG
        split
        · simp
        · have := flat_bound (f := goalQ c p f) (n := 1) (l := c.ps) fun q hq => goalQ_one hc (poAt_mem hpo).1 hq f
          omega
section
theorem flsK_fault {K : Kn} (hK : KnOk K) {ch : Int} (hch : 0 ≤ ch ∧ ch ≤ 5) : flowsFault (flAt (flsK K) ch) = 0 := by
  have h := hK.at ch.toNat
  rw [flAt_K hch]
  cases hk : K.getD ch.toNat none with
  | none => rfl
  | some c => exact comp_fault (h c hk) hch
theorem send_ok {K : Kn} (hK : KnOk K) {ch : Int} (hch : 0 ≤ ch ∧ ch ≤ 5) {f : Fr} (hff : frameFault f = 0) {id : Int} (hid : 1 ≤ id ∧ id ≤ 65535) : SendOk (flsK K) ch (pkOf f id 0 0) := by
  have hcf := hK.cf ch
  have hS := sent_known hK hch hff hid
  have hG := fun g (hg : g ∈ ledF (cfAt K ch) ch id f) => led_ok hcf hch hff hg
  have hl := led_len40 hcf ch id f
  have hmem : ∀ s ∈ ranOf (flAt (flsK K) ch) (pkOf f id 0 0), ∃ g ∈ ledF (cfAt K ch) ch id f, s.p = pkG id g ∧ (s.kind = 5 ∨ (s.kind = 6 ∧ 0 ≤ s.n ∧ s.n ≤ 5)) := fun s hs => by
    rw [hS] at hs
    obtain ⟨g, hg, hgs⟩ := List.mem_filterMap.1 hs
    refine ⟨g, hg, ?_⟩
    obtain ⟨_, _, _, _, q, _, hpo, h5, h6⟩ := hG g hg
    unfold sentG at hgs
    rw [hpo] at hgs
    dsimp only at hgs
    split at hgs
    · split at hgs
      · obtain rfl := Option.some.inj hgs
        exact ⟨rfl, .inl rfl⟩
      · cases hgs
    · obtain rfl := Option.some.inj hgs
      exact ⟨rfl, .inr ⟨rfl, h5, h6⟩⟩
  refine ⟨⟨hch, flsK_fault hK hch, packet_ok (frMay hff) (by omega) (by omega) (by omega), fun s hs => ?_, ?_⟩, fun s hs h5 => ?_, fun x hx => ?_, ?_⟩
  · obtain ⟨g, hg, e, _⟩ := hmem s hs
    rw [e]
    exact (hG g hg).is
  · rw [hS]
    have := List.length_filterMap_le (sentG (cfAt K ch) ch id (floodB f)) (ledF (cfAt K ch) ch id f)
    omega
  · obtain ⟨g, hg, e, h⟩ := hmem s hs
    obtain ⟨g1, g2, g3, g4, _⟩ := hG g hg
    have h := h.resolve_left h5
    have ec := come_known hK (ch := s.n) h.2 (frMay g3) g1 (t := g.to) (by omega) (by omega)
    have e2 : pkOf (frOfP s.p) 0 s.p.f8 s.p.f9 = pkOf g.is 0 g.net g.to := by rw [e]; rfl
    refine ⟨by rw [e]; exact g1, by rw [e]; show 0 ≤ g.to ∧ g.to ≤ 65535; omega, ?_⟩
    rw [e2]
    refine ⟨h.2, flsK_fault hK h.2, packet_ok (frMay g3) (by omega) g1 (by omega), fun x hx => ?_, ?_⟩
    · rw [ec] at hx
      split at hx
      · obtain rfl := List.mem_singleton.1 hx
        exact g3
      · simp at hx
    · rw [ec]
      split <;> simp
  · rw [arr_led hK hch hff hid] at hx
    obtain ⟨g, hg, hx⟩ := List.mem_flatMap.1 hx
    have h1 := arrG_port hx
    have h2 := (hG g hg).to
    unfold ArR
    omega
  · rw [arr_led hK hch hff hid]
    have := flat_bound (f := arrG K ch) (n := 1) (l := ledF (cfAt K ch) ch id f) fun g _ => by
      unfold arrG
      split
      · split <;> simp
      · simp
    omega
theorem send_sorted {K : Kn} (hK : KnOk K) {ch : Int} (hch : 0 ≤ ch ∧ ch ≤ 5) {f : Fr} (hff : frameFault f = 0) {id : Int} (hid : 1 ≤ id ∧ id ≤ 65535) : AS.sortA (runF1 (flsK K) ch (pkOf f id 0 0)) = sentOfF K ch id f := by
  rw [arr_led hK hch hff hid]
  exact sorted_led hK hch hff
end
theorem pkE_id {f : Fr} {id : Int} (hid : 1 ≤ id ∧ id ≤ 65535) : pkE f id 0 0 = frameFault f := by
  unfold pkE
  split
  · rfl
  · rename_i h
    have h0 : frameFault f = 0 := by omega
    rw [packet_ok (frMay h0) (by omega) (by omega) (by omega), h0]
theorem sameCome_T (l : List Ar) (hl : l.length < 9223372036854775807) : Fun Tryz.prog 19 [.fv (slOf encAr l), .fv (slOf encAr l)] (.fv (.bool true)) := by
  refine Fun.body tbl_ok Tryz.func19 rfl (by kernel_rfl) rfl rfl rfl ?_
  repeat' (first | refine X.loc ?_ | refine nx ?_ | refine X.cdT ?_ | refine X.cdF ?_ | refine cb ?_ ?_ | (refine cc ?_ ?_ <;> intro hcond) | refine rb ?_ | refine nd ?_ | refine dk ?_ | fail)
  refine WP.loop (ι := Nat) (fun k => ⟨[(0, .fv (slOf encAr l)), (1, .fv (slOf encAr l)), (5, .fv (.int .i64 k))], []⟩) (fun k => k ≤ l.length) (fun k => l.length - k) 0 (by omega) ?_ ?_
  · exact lq
  rintro k hk
  try dsimp only
  by_cases hlt : k < l.length
  case neg =>
    repeat' (first | refine X.loc ?_ | refine nx ?_ | refine X.cdT ?_ | refine X.cdF ?_ | refine cb ?_ ?_ | (refine cc ?_ ?_ <;> intro hcond) | refine rb ?_ | refine nd ?_ | refine dk ?_ | fail)
    exact .f1 (.inl rfl) rfl rfl
  case pos =>
    obtain ⟨x, hx⟩ : ∃ x, l[k]? = some x := ⟨_, List.getElem?_eq_getElem hlt⟩
    repeat' (first | (apply X.loE; (· exact aR); (· first | (exact .eff (.idxS rfl rfl rfl encAr_len hx)))) | refine X.loc ?_ | refine nx ?_ | refine cb ?_ ?_ | (refine cc ?_ ?_ <;> intro hcond) | (apply X.gsE; (· exact aR); (· exact aV); (· exact aW); (· intro hc; first | (exact .eff (.idxS rfl rfl rfl encAr_len hx))); (· exact aR)) | refine rb ?_ | refine nd ?_ | refine dk ?_ | fail)
    · exfalso
      simp [beqL, beqV] at hcond
    · refine ⟨k + 1, by omega, by omega, ?_⟩
      exact lq
    · exfalso
      simp at hcond
      omega
theorem sentOfF_len {K : Kn} (hK : KnOk K) (ch id : Int) (f : Fr) : (sentOfF K ch id f).length ≤ 80000 := by
  have hl := led_len (cfAt K ch) (hK.cf ch) ch id f
  have := flat_bound (f := fun n : Nat => (ledF (cfAt K ch) ch id f).flatMap (arrN K ch n)) (n := 80) (l := List.range 1000) fun n _ => by
    have := flat_bound (f := arrN K ch n) (n := 1) (l := ledF (cfAt K ch) ch id f) fun g _ => arrN_len K ch n g
    omega
  rw [List.length_range] at this
  exact this
structure Fb where
  c : Cf
  K : Kn
structure Rep where
  code : Int
  come : List Ar
def encRep (r : Rep) : List FV := [.int .i64 r.code, slOf encAr r.come]
theorem encRep_len (r : Rep) : (encRep r).length = 2 := rfl
def repE (c : Cf) (id : Int) (f : Fr) : Int := match poAt c id with
  | none => 6
  | some q => if q.ch < 0 then 6 else frameFault f
def repR (c : Cf) (K : Kn) (id : Int) (f : Fr) : List Ar := match poAt c id with
  | none => []
  | some q => if q.ch < 0 then [] else if frameFault f ≠ 0 then [] else sentOfF K q.ch id f
def actR (s : Fb) (a : De) : Rep :=
  if a.kind = 7 then ⟨if a.n < 0 ∨ 6 ≤ a.n then 2 else 0, []⟩
  else if a.kind = 8 then ⟨repE s.c a.n a.fr, repR s.c s.K a.n a.fr⟩
  else ⟨applyE s.c a, []⟩
def actS (s : Fb) (a : De) : Fb :=
  if a.kind = 7 then (if a.n < 0 ∨ 6 ≤ a.n then s else ⟨s.c, s.K.set a.n.toNat (some s.c)⟩)
  else if a.kind = 8 then s
  else ⟨stepC s.c a, s.K⟩
structure FbOk (s : Fb) : Prop where
  c : CfOk s.c
  k : KnOk s.K
  six : s.K.length = 6
theorem KnOk.set {K : Kn} (h : KnOk K) {c : Cf} (hc : CfOk c) (n : Nat) : KnOk (K.set n (some c)) := ⟨fun k hk x hx => by
  rcases List.mem_or_eq_of_mem_set hk with hk | rfl
  · exact h.ok k hk x hx
  · obtain rfl := Option.some.inj hx
    exact hc⟩
theorem FbOk.act {s : Fb} (h : FbOk s) (a : De) : FbOk (actS s a) := by
  unfold actS
  split
  · split
    · exact h
    · exact ⟨h.c, h.k.set h.c _, by rw [List.length_set]; exact h.six⟩
  · split
    · exact h
    · exact ⟨h.c.step a, h.k, h.six⟩
def fb0 : Fb := ⟨cf0, [none, none, none, none, none, none]⟩
theorem fb0_ok : FbOk fb0 := ⟨CfOk.nil, ⟨fun k hk x hx => by
  simp only [fb0, List.mem_cons, List.not_mem_nil, or_false, or_self] at hk
  subst hk
  cases hx⟩, rfl⟩
def runR : Fb → List De → List Rep
  | _, [] => []
  | s, a :: l => actR s a :: runR (actS s a) l
def runS (s : Fb) (l : List De) : Fb := l.foldl actS s
theorem runR_len : ∀ (l : List De) (s : Fb), (runR s l).length = l.length
  | [], _ => rfl
  | a :: l, s => by rw [runR, List.length_cons, List.length_cons, runR_len l]
theorem runS_ok {s : Fb} (h : FbOk s) : ∀ l : List De, FbOk (runS s l) := fun l => by
  induction l generalizing s with
  | nil => exact h
  | cons a l ih => exact ih (h.act a)
theorem runS_snoc (s : Fb) (l : List De) (a : De) : runS s (l ++ [a]) = actS (runS s l) a := by simp [runS]
theorem runR_snoc : ∀ (s : Fb) (l : List De) (a : De), runR s (l ++ [a]) = runR s l ++ [actR (runS s l) a]
  | s, [], a => rfl
  | s, b :: l, a => by
    rw [List.cons_append, runR, runR, runR_snoc (actS s b) l a]
    rfl
theorem flsK_set {K : Kn} (h6 : K.length = 6) {c : Cf} {n : Nat} (hn : n < 6) : (flsK K).set n (compF_ c (n : Int)) = flsK (K.set n (some c)) := by
  unfold flsK
  apply List.ext_getElem?
  intro i
  rw [List.getElem?_set]
  rcases Nat.lt_or_ge i 6 with hi | hi
  · rw [List.getElem?_map, List.getElem?_map, List.getElem?_range hi, List.length_map, List.length_range]
    simp only [Option.map_some]
    by_cases e : n = i
    · subst e
      rw [if_pos rfl, if_pos hn, List.getD_eq_getElem?_getD, List.getElem?_set, if_pos rfl, if_pos (by omega)]
      rfl
    · rw [if_neg e, List.getD_eq_getElem?_getD, List.getD_eq_getElem?_getD, List.getElem?_set, if_neg e]
  · rw [if_neg (by omega), List.getElem?_eq_none (by simp; omega), List.getElem?_eq_none (by simp; omega)]
theorem flsK_ok {K : Kn} (hK : KnOk K) : FlsOk (flsK K) := by
  have key : ∀ {P : List Fl → Prop}, (∀ (c : Cf) (ch : Int), CfOk c → 0 ≤ ch ∧ ch ≤ 5 → P (compF_ c ch)) → P [] → ∀ L ∈ flsK K, P L := fun h1 h2 L hL => by
    obtain ⟨i, hi, rfl⟩ := List.mem_map.1 hL
    have := List.mem_range.1 hi
    have hk := hK.at i
    unfold flK
    split
    · exact h2
    · rename_i c hc
      exact h1 c i (hk c hc) (by omega)
  exact ⟨by simp [flsK], key (fun c ch hc h => comp_room hc h) ⟨fun f hf => by simp at hf, by simp⟩, key (fun c ch _ _ => comp_strict c ch) .nil, key (fun c ch hc _ => comp_len hc) (by simp)⟩
def scrE (l : List De) : Int := if 300 < l.length then 1 else 0
def scrR (l : List De) : List Rep := if 300 < l.length then [] else runR fb0 l
def scrC (l : List De) : Cf := if 300 < l.length then cf0 else (runS fb0 l).c
theorem send_rep {s : Fb} (h : FbOk s) (id : Int) (f : Fr) : sendE s.c id f = repE s.c id f ∧ sendR s.c (flsK s.K) id f = repR s.c s.K id f ∧ (∀ q, poAt s.c id = some q → 0 ≤ q.ch → pkE f id 0 0 = 0 → SendOk (flsK s.K) q.ch (pkOf f id 0 0)) := by
  unfold sendE sendR repE repR
  cases hpo : poAt s.c id with
  | none => exact ⟨rfl, rfl, fun q hq => by cases hq⟩
  | some q =>
    obtain ⟨hq, hid⟩ := poAt_mem hpo
    have hqr := (h.c.pg q hq).1
    unfold PoR at hqr
    dsimp only
    rw [pkE_id (by omega)]
    refine ⟨rfl, ?_, fun p hp h0 he => ?_⟩
    · by_cases h0 : q.ch < 0
      · rw [if_pos h0, if_pos h0]
      rw [if_neg h0, if_neg h0]
      by_cases hff : frameFault f = 0
      · rw [if_neg (show ¬ frameFault f ≠ 0 by omega), if_neg (show ¬ frameFault f ≠ 0 by omega)]
        exact send_sorted h.k (by omega) hff (by omega)
      · rw [if_pos hff, if_pos hff]
    · obtain rfl := Option.some.inj hp
      exact send_ok h.k (by omega) he (by omega)
end Go.Proofs.YtmidechdlbcepaaGreat