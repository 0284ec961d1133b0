/- Flows: the first that fits, by the logic of memory. -/
import Derived.Test.YtdbbmjdeeenlhaaF5
namespace Go.Proofs.Ytdbbmjdeeenlhaa
open Go.RowKit
set_option maxRecDepth 100000

theorem Eff.idxD {α : Type} {enc : α → List FV} {T : Tbl} {ρ : Operand → AV} {H : Own} {d t : Nat} {x y : Operand} {l : List α} {e s b : Nat} {k : IntKind} {i : Int} (d0 : α) (h1 : ρ x = .fv (slOf enc l)) (h2 : ρ y = .fv (.int k i)) (h3 : lk T.sli t = some (e, s, b)) (hs : ∀ x, (enc x).length = s) (hi : 0 ≤ i ∧ i < l.length) :
    Eff T ρ H d (.indexAddr t x y) (.fptr (enc (l.getD i.toNat d0))) [] := by
  obtain ⟨n, rfl⟩ := Int.eq_ofNat_of_zero_le hi.1
  have hlt : n < l.length := by omega
  refine Eff.idxS h1 h2 h3 hs (u := l.getD n d0) ?_
  simp [List.getElem?_eq_getElem hlt]
def fl0 : Fl := ⟨0, 0, [], []⟩
theorem prioAt_getD {l : List Fl} {i : Int} (h : 0 ≤ i ∧ i < l.length) : prioAt l i = (l.getD i.toNat fl0).prio := by
  obtain ⟨n, rfl⟩ := Int.eq_ofNat_of_zero_le h.1
  have hlt : n < l.length := by omega
  unfold prioAt
  simp [List.getElem?_eq_getElem hlt]
theorem bst_bd {l : List Fl} {q : Fl → Bool} {k : Nat} (hk : k ≤ l.length) : -1 ≤ bst l q k ∧ (0 ≤ bst l q k → 0 ≤ bst l q k ∧ bst l q k < l.length) := by
  rcases bst_is l q k hk with ⟨h1, _⟩ | ⟨n, g, h1, _, h2, _⟩
  · omega
  · omega
set_option maxHeartbeats 2000000 in
theorem first_T (l : List Fl) (t : Int) (p : Pk) (hp : p.Wd) (hm : ∀ f ∈ l, f.ms.all mxOk = true ∧ f.ms.length < 9223372036854775807) (hl : l.length < 9223372036854775807) : Fun Try.prog 60 [.fv (slOf encFl l), .fv (.int .i64 t), .agg ((encPk p).map .fv)] (.fv (.int .i64 (bestOf l t p))) := by
  refine Fun.body tbl_ok Try.func60 rfl (by kernel_rfl) rfl rfl rfl ?_
  repeat' (first
    | (apply Ops.loc; (· rfl); (· rfl); (· rfl); (· first | exact .eff (.mv rfl) | exact .eff (.asg rfl) | exact .eff (.loadO rfl rfl rfl) | exact .eff (.loadF rfl rfl) | exact .eff (.fldO rfl rfl rfl) | exact .eff (.fldF rfl rfl rfl) | (refine .eff (.add64 rfl rfl ?_ ?_) <;> omega) | (refine .eff (.sub64 rfl rfl ?_ ?_) <;> omega) | exact .eff (.lenF rfl rfl) | exact .eff (.lenO rfl rfl rfl) | exact .eff (.lenN rfl rfl) | exact .eff (.lenS rfl rfl) | exact .eff (.isNilF rfl (by omega) rfl (flatMap_len (fun _ => rfl) _)) | exact .eff (.isNilO rfl rfl (by omega) rfl) | exact .eff (.isNilZ rfl rfl rfl) | exact .eff (.lenB rfl rfl) | exact .eff (.idxB rfl rfl rfl (by omega) (by omega)) | exact .eff (.oLH rfl rfl rfl rfl rfl (by omega) (by omega)) | exact .eff (.oL rfl rfl rfl rfl (by omega)) | exact .eff (.oH rfl rfl rfl rfl (by omega)) | exact .eff (.bLH rfl rfl rfl rfl rfl (by omega) (by omega)) | exact .eff (.or rfl rfl rfl) | exact .eff (.and rfl rfl rfl) | exact .eff (.not rfl) | exact .eff (.extract rfl rfl) | (refine .eff (.mul64 rfl rfl ?_ ?_) <;> omega) | exact .eff (.bin rfl rfl rfl) | (refine .eff (.quo64 rfl rfl ?_ ?_ ?_) <;> omega) | (refine .eff (.rem64 rfl rfl ?_ ?_) <;> omega) | exact .eff (.idxPO rfl rfl rfl (by omega) (by omega)) | exact .eff (.idxPF rfl rfl rfl (by omega) (by omega)) | exact .eff (.idxO rfl rfl rfl rfl (by omega) (by omega)) | exact .eff (.buildS rfl rfl rfl rfl) | exact .eff (.eqA rfl rfl rfl rfl rfl) | exact .eff (.neA rfl rfl rfl rfl rfl) | exact .eff (.quo rfl rfl (by decide)) | exact .eff (.rem rfl rfl (by decide)) | exact .eff (.shr rfl rfl (by decide) (by decide)) | exact .eff (.shl rfl rfl (by decide) (by decide)) | exact .eff (.conv rfl rfl rfl) | exact .eff (.strEq rfl rfl) | exact .eff (.strNe rfl rfl) | exact .eff (.mkFn) | exact .eff (.nilO rfl) | exact .eff (.nilF rfl) | exact .eff (.neg rfl) | exact .eff (.max rfl rfl) | exact .eff (.min rfl rfl)))
    | with_reducible refine WP.seq ?_
    | with_reducible apply WP.reg tbl_ok rfl
    | with_reducible refine Ops.nil ?_
    | with_reducible refine thenQ.nor ?_
    | with_reducible refine thenQ.ex ?_
    | with_reducible refine thenQ.ret ?_
    | with_reducible refine blockQ.nor ?_
    | with_reducible refine blockQ.ret ?_
    | with_reducible refine blockQ.hit rfl ?_
    | with_reducible refine blockQ.out rfl ?_
    | with_reducible refine WP.block ?_
    | with_reducible refine WP.skip ?_
    | with_reducible refine WP.exit ?_
    | with_reducible refine WP.ret ?_
    | refine WP.condT rfl ?_
    | refine WP.condF rfl ?_
    | refine WP.condBit rfl ?_ ?_
    | (refine WP.cond rfl ?_ ?_ <;> intro hcond)
    | (apply Ops.gst; (· rfl); (· rfl); (· rfl); (· rfl); (· rfl); (· rfl); (· rfl); (· first | exact .b | exact .w); (· intro hc; repeat' (first | exact trivial | exact fun _ => hc | exact fun _ => hc.1 | exact fun _ => ⟨hc.1.1, hc.1.2⟩ | refine And.intro ?_ ?_)); (· intro hc; first | exact .eff (.mvG rfl) | exact .eff (.asg rfl) | exact .eff (.loadO rfl rfl rfl) | exact .eff (.loadF rfl rfl) | exact .eff (.fldO rfl rfl rfl) | exact .eff (.fldF rfl rfl rfl) | (refine .eff (.add64 rfl rfl ?_ ?_) <;> omega) | (refine .eff (.sub64 rfl rfl ?_ ?_) <;> omega) | exact .eff (.lenF rfl rfl) | exact .eff (.lenO rfl rfl rfl) | exact .eff (.lenN rfl rfl) | exact .eff (.lenS rfl rfl) | exact .eff (.isNilF rfl (by omega) rfl (flatMap_len (fun _ => rfl) _)) | exact .eff (.isNilO rfl rfl (by omega) rfl) | exact .eff (.isNilZ rfl rfl rfl) | exact .eff (.lenB rfl rfl) | exact .eff (.idxB rfl rfl rfl (by omega) (by omega)) | exact .eff (.oLH rfl rfl rfl rfl rfl (by omega) (by omega)) | exact .eff (.oL rfl rfl rfl rfl (by omega)) | exact .eff (.oH rfl rfl rfl rfl (by omega)) | exact .eff (.bLH rfl rfl rfl rfl rfl (by omega) (by omega)) | exact .eff (.or rfl rfl rfl) | exact .eff (.and rfl rfl rfl) | exact .eff (.not rfl) | exact .eff (.extract rfl rfl) | (refine .eff (.mul64 rfl rfl ?_ ?_) <;> omega) | exact .eff (.bin rfl rfl rfl) | (refine .eff (.quo64 rfl rfl ?_ ?_ ?_) <;> omega) | (refine .eff (.rem64 rfl rfl ?_ ?_) <;> omega) | exact .eff (.idxPO rfl rfl rfl (by omega) (by omega)) | exact .eff (.idxPF rfl rfl rfl (by omega) (by omega)) | exact .eff (.idxO rfl rfl rfl rfl (by omega) (by omega)) | exact .eff (.buildS rfl rfl rfl rfl) | exact .eff (.eqA rfl rfl rfl rfl rfl) | exact .eff (.neA rfl rfl rfl rfl rfl) | exact .eff (.quo rfl rfl (by decide)) | exact .eff (.rem rfl rfl (by decide)) | exact .eff (.shr rfl rfl (by decide) (by decide)) | exact .eff (.shl rfl rfl (by decide) (by decide)) | exact .eff (.conv rfl rfl rfl) | exact .eff (.strEq rfl rfl) | exact .eff (.strNe rfl rfl) | exact .eff (.mkFn) | exact .eff (.nilO rfl) | exact .eff (.nilF rfl) | exact .eff (.neg rfl) | exact .eff (.max rfl rfl) | exact .eff (.min rfl rfl)); (· rfl); (· rfl))
    | (apply Ops.new; (· rfl); (· rfl); (· rfl); (· first | exact .eff (.box rfl) | exact .eff (.alloc rfl) | exact .eff (.bsliceS rfl rfl rfl rfl rfl) | exact .eff (.mkS rfl rfl rfl rfl (by omega) (by omega)) | exact .eff (.zeroS rfl rfl (by intro l hl; first | cases hl | exact ⟨_, by injection hl with hl; subst hl; rfl⟩) rfl rfl rfl)); (· first | rfl | (simp only [freshB, noRefH, OB.cells, refsL_fv, refsL_app]; rfl)))
    | (apply Ops.app; (· rfl); (· rfl); (· rfl); (· rfl); (· rfl); (· rfl); (· rfl); (· exact (by first | exact .nil | exact .own rfl (rmv_q (by first | exact (rfl : _ = []) | exact (rfl : _ = [_]) | exact (rfl : _ = [_, _]) | exact (rfl : _ = [_, _, _]) | exact (rfl : _ = [_, _, _, _]) | exact (rfl : _ = [_, _, _, _, _]) | exact (rfl : _ = [_, _, _, _, _, _]) | exact (rfl : _ = [_, _, _, _, _, _, _]) | exact (rfl : _ = [_, _, _, _, _, _, _, _]) | exact (rfl : _ = [_, _, _, _, _, _, _, _, _]) | exact (rfl : _ = [_, _, _, _, _, _, _, _, _, _]) | exact (rfl : _ = [_, _, _, _, _, _, _, _, _, _, _]) | exact (rfl : _ = [_, _, _, _, _, _, _, _, _, _, _, _]))))); (· exact (by first | exact .nil | exact .own rfl (by first | rfl | exact onesB_map _) | exact .fz (by first | rfl | (simp; done) | exact (flatMap_len (s := 1) (fun _ => rfl) _).trans (by omega)))); (· rfl); (· show (_ : Nat) ≤ 140737488355328; omega); (· first | rfl | (simp only [freshB, noRefH, OB.cells, refsL_fv, refsL_app]; rfl)))
    | (apply Ops.appS; (· rfl); (· rfl); (· rfl); (· rfl); (· rfl); (· rfl); (· rfl); (· rfl); (· rfl); (· exact (by first | exact .nil | exact .own rfl (rmv_q (by first | exact (rfl : _ = []) | exact (rfl : _ = [_]) | exact (rfl : _ = [_, _]) | exact (rfl : _ = [_, _, _]) | exact (rfl : _ = [_, _, _, _]) | exact (rfl : _ = [_, _, _, _, _]) | exact (rfl : _ = [_, _, _, _, _, _]) | exact (rfl : _ = [_, _, _, _, _, _, _]) | exact (rfl : _ = [_, _, _, _, _, _, _, _]) | exact (rfl : _ = [_, _, _, _, _, _, _, _, _]) | exact (rfl : _ = [_, _, _, _, _, _, _, _, _, _]) | exact (rfl : _ = [_, _, _, _, _, _, _, _, _, _, _]) | exact (rfl : _ = [_, _, _, _, _, _, _, _, _, _, _, _]))))); (· show (_ : Nat) ≤ 140737488355328; omega); (· first | rfl | (simp only [freshB, noRefH, OB.cells, refsL_fv, refsL_app]; rfl)))
    | (apply Ops.stoW; (· rfl); (· rfl); (· rfl); (· rfl); (· rfl); (· rfl); (· first | rfl | exact onesB_map _); (· rfl); (· exact rfl); (· exact (by repeat' (first | exact .here | apply Repl.there rfl))))
    | (apply Ops.stoB; (· rfl); (· rfl); (· rfl); (· rfl); (· rfl); (· rfl); (· first | rfl | exact onesB_map _); (· rfl); (· exact rfl); (· exact (by repeat' (first | exact .here | apply Repl.there rfl))))
    | (apply Ops.stoR; (· rfl); (· rfl); (· rfl); (· rfl); (· rfl); (· rfl); (· first | rfl | exact onesB_map _); (· rfl); (· exact rfl); (· exact (by repeat' (first | exact .here | apply Repl.there rfl))))
    | (apply Ops.gand; (· rfl); (· rfl); (· rfl); (· rfl); (· rfl); (· rfl); (· rfl); (· exact (by first | exact .b | exact .w)); (· rfl); (· rfl); (· rfl); (· simp); (· intro hc; first | exact hc | exact hc.1); (· intro hc; exact ⟨fun h => h.2, fun h => ⟨hc, h⟩⟩))
    | (apply Ops.gor; (· rfl); (· rfl); (· rfl); (· rfl); (· rfl); (· rfl); (· rfl); (· exact (by first | exact .b | exact .w)); (· rfl); (· rfl); (· rfl); (· simp); (· intro hc; first | exact hc | exact hc.1); (· intro hc; exact ⟨fun h => h.2, fun h => ⟨hc, h⟩⟩))
    | apply WP.drwL tbl_ok mixed_no rfl
    | ((with_reducible apply drwK.mk); (· kernel_rfl); (· first | rfl | (simp only [freeF, List.all_cons, List.all_nil, noRefH, OB.cells, refsL_fv, refsL_app]; rfl)))
    | fail)
  all_goals (try exact ([] : List Fp))
  refine WP.loop (ι := Nat) (fun k => ⟨[(0, .fv (slOf encFl l)), (1, .fv (.int .i64 t)), (5, .optr 5 0), (7, .fv (.int .i64 (bst l (fun f => f.table == t && fitsB p f) k))), (10, .fv (slOf encFl l)), (11, .fv (.int .i64 l.length)), (12, .fv (.int .i64 k))], [(5, .box 24 ((encPk p).map .fv))]⟩)
    (fun k => k ≤ l.length) (fun k => l.length - k) 0 (by omega) ?_ ?_
  · skip
    refine St.le_of ?_ ?_ <;> (repeat' (first | exact trivial | refine ⟨⟨_, rfl, .refl _⟩, ?_⟩ | refine ⟨⟨_, rfl, .any _⟩, ?_⟩ | refine ⟨⟨_, rfl, .of_eq ?_⟩, ?_⟩ | refine ⟨⟨_, rfl, fun _ _ _ _ h => h⟩, ?_⟩ | fail))
  rintro k hk
  try dsimp only
  obtain ⟨hb1, hb2⟩ := bst_bd (q := fun f => f.table == t && fitsB p f) hk
  by_cases hlt : k < l.length
  case neg =>
    repeat' (first
      | (apply Ops.loc; (· rfl); (· rfl); (· rfl); (· first | exact .eff (.mv rfl) | exact .eff (.asg rfl) | exact .eff (.loadO rfl rfl rfl) | exact .eff (.loadF rfl rfl) | exact .eff (.fldO rfl rfl rfl) | exact .eff (.fldF rfl rfl rfl) | (refine .eff (.add64 rfl rfl ?_ ?_) <;> omega) | (refine .eff (.sub64 rfl rfl ?_ ?_) <;> omega) | exact .eff (.lenF rfl rfl) | exact .eff (.lenO rfl rfl rfl) | exact .eff (.lenN rfl rfl) | exact .eff (.lenS rfl rfl) | exact .eff (.isNilF rfl (by omega) rfl (flatMap_len (fun _ => rfl) _)) | exact .eff (.isNilO rfl rfl (by omega) rfl) | exact .eff (.isNilZ rfl rfl rfl) | exact .eff (.lenB rfl rfl) | exact .eff (.idxB rfl rfl rfl (by omega) (by omega)) | exact .eff (.oLH rfl rfl rfl rfl rfl (by omega) (by omega)) | exact .eff (.oL rfl rfl rfl rfl (by omega)) | exact .eff (.oH rfl rfl rfl rfl (by omega)) | exact .eff (.bLH rfl rfl rfl rfl rfl (by omega) (by omega)) | exact .eff (.or rfl rfl rfl) | exact .eff (.and rfl rfl rfl) | exact .eff (.not rfl) | exact .eff (.extract rfl rfl) | (refine .eff (.mul64 rfl rfl ?_ ?_) <;> omega) | exact .eff (.bin rfl rfl rfl) | (refine .eff (.quo64 rfl rfl ?_ ?_ ?_) <;> omega) | (refine .eff (.rem64 rfl rfl ?_ ?_) <;> omega) | exact .eff (.idxPO rfl rfl rfl (by omega) (by omega)) | exact .eff (.idxPF rfl rfl rfl (by omega) (by omega)) | exact .eff (.idxO rfl rfl rfl rfl (by omega) (by omega)) | exact .eff (.buildS rfl rfl rfl rfl) | exact .eff (.eqA rfl rfl rfl rfl rfl) | exact .eff (.neA rfl rfl rfl rfl rfl) | exact .eff (.quo rfl rfl (by decide)) | exact .eff (.rem rfl rfl (by decide)) | exact .eff (.shr rfl rfl (by decide) (by decide)) | exact .eff (.shl rfl rfl (by decide) (by decide)) | exact .eff (.conv rfl rfl rfl) | exact .eff (.strEq rfl rfl) | exact .eff (.strNe rfl rfl) | exact .eff (.mkFn) | exact .eff (.nilO rfl) | exact .eff (.nilF rfl) | exact .eff (.neg rfl) | exact .eff (.max rfl rfl) | exact .eff (.min rfl rfl)))
      | with_reducible refine WP.seq ?_
      | with_reducible apply WP.reg tbl_ok rfl
      | with_reducible refine Ops.nil ?_
      | with_reducible refine thenQ.nor ?_
      | with_reducible refine thenQ.ex ?_
      | with_reducible refine thenQ.ret ?_
      | with_reducible refine blockQ.nor ?_
      | with_reducible refine blockQ.ret ?_
      | with_reducible refine blockQ.hit rfl ?_
      | with_reducible refine blockQ.out rfl ?_
      | with_reducible refine WP.block ?_
      | with_reducible refine WP.skip ?_
      | with_reducible refine WP.exit ?_
      | with_reducible refine WP.ret ?_
      | refine WP.condT rfl ?_
      | refine WP.condF rfl ?_
      | refine WP.condBit rfl ?_ ?_
      | (refine WP.cond rfl ?_ ?_ <;> intro hcond)
      | (apply Ops.gst; (· rfl); (· rfl); (· rfl); (· rfl); (· rfl); (· rfl); (· rfl); (· first | exact .b | exact .w); (· intro hc; repeat' (first | exact trivial | exact fun _ => hc | exact fun _ => hc.1 | exact fun _ => ⟨hc.1.1, hc.1.2⟩ | refine And.intro ?_ ?_)); (· intro hc; first | exact .eff (.mvG rfl) | exact .eff (.asg rfl) | exact .eff (.loadO rfl rfl rfl) | exact .eff (.loadF rfl rfl) | exact .eff (.fldO rfl rfl rfl) | exact .eff (.fldF rfl rfl rfl) | (refine .eff (.add64 rfl rfl ?_ ?_) <;> omega) | (refine .eff (.sub64 rfl rfl ?_ ?_) <;> omega) | exact .eff (.lenF rfl rfl) | exact .eff (.lenO rfl rfl rfl) | exact .eff (.lenN rfl rfl) | exact .eff (.lenS rfl rfl) | exact .eff (.isNilF rfl (by omega) rfl (flatMap_len (fun _ => rfl) _)) | exact .eff (.isNilO rfl rfl (by omega) rfl) | exact .eff (.isNilZ rfl rfl rfl) | exact .eff (.lenB rfl rfl) | exact .eff (.idxB rfl rfl rfl (by omega) (by omega)) | exact .eff (.oLH rfl rfl rfl rfl rfl (by omega) (by omega)) | exact .eff (.oL rfl rfl rfl rfl (by omega)) | exact .eff (.oH rfl rfl rfl rfl (by omega)) | exact .eff (.bLH rfl rfl rfl rfl rfl (by omega) (by omega)) | exact .eff (.or rfl rfl rfl) | exact .eff (.and rfl rfl rfl) | exact .eff (.not rfl) | exact .eff (.extract rfl rfl) | (refine .eff (.mul64 rfl rfl ?_ ?_) <;> omega) | exact .eff (.bin rfl rfl rfl) | (refine .eff (.quo64 rfl rfl ?_ ?_ ?_) <;> omega) | (refine .eff (.rem64 rfl rfl ?_ ?_) <;> omega) | exact .eff (.idxPO rfl rfl rfl (by omega) (by omega)) | exact .eff (.idxPF rfl rfl rfl (by omega) (by omega)) | exact .eff (.idxO rfl rfl rfl rfl (by omega) (by omega)) | exact .eff (.buildS rfl rfl rfl rfl) | exact .eff (.eqA rfl rfl rfl rfl rfl) | exact .eff (.neA rfl rfl rfl rfl rfl) | exact .eff (.quo rfl rfl (by decide)) | exact .eff (.rem rfl rfl (by decide)) | exact .eff (.shr rfl rfl (by decide) (by decide)) | exact .eff (.shl rfl rfl (by decide) (by decide)) | exact .eff (.conv rfl rfl rfl) | exact .eff (.strEq rfl rfl) | exact .eff (.strNe rfl rfl) | exact .eff (.mkFn) | exact .eff (.nilO rfl) | exact .eff (.nilF rfl) | exact .eff (.neg rfl) | exact .eff (.max rfl rfl) | exact .eff (.min rfl rfl)); (· rfl); (· rfl))
      | (apply Ops.new; (· rfl); (· rfl); (· rfl); (· first | exact .eff (.box rfl) | exact .eff (.alloc rfl) | exact .eff (.bsliceS rfl rfl rfl rfl rfl) | exact .eff (.mkS rfl rfl rfl rfl (by omega) (by omega)) | exact .eff (.zeroS rfl rfl (by intro l hl; first | cases hl | exact ⟨_, by injection hl with hl; subst hl; rfl⟩) rfl rfl rfl)); (· first | rfl | (simp only [freshB, noRefH, OB.cells, refsL_fv, refsL_app]; rfl)))
      | (apply Ops.app; (· rfl); (· rfl); (· rfl); (· rfl); (· rfl); (· rfl); (· rfl); (· exact (by first | exact .nil | exact .own rfl (rmv_q (by first | exact (rfl : _ = []) | exact (rfl : _ = [_]) | exact (rfl : _ = [_, _]) | exact (rfl : _ = [_, _, _]) | exact (rfl : _ = [_, _, _, _]) | exact (rfl : _ = [_, _, _, _, _]) | exact (rfl : _ = [_, _, _, _, _, _]) | exact (rfl : _ = [_, _, _, _, _, _, _]) | exact (rfl : _ = [_, _, _, _, _, _, _, _]) | exact (rfl : _ = [_, _, _, _, _, _, _, _, _]) | exact (rfl : _ = [_, _, _, _, _, _, _, _, _, _]) | exact (rfl : _ = [_, _, _, _, _, _, _, _, _, _, _]) | exact (rfl : _ = [_, _, _, _, _, _, _, _, _, _, _, _]))))); (· exact (by first | exact .nil | exact .own rfl (by first | rfl | exact onesB_map _) | exact .fz (by first | rfl | (simp; done) | exact (flatMap_len (s := 1) (fun _ => rfl) _).trans (by omega)))); (· rfl); (· show (_ : Nat) ≤ 140737488355328; omega); (· first | rfl | (simp only [freshB, noRefH, OB.cells, refsL_fv, refsL_app]; rfl)))
      | (apply Ops.appS; (· rfl); (· rfl); (· rfl); (· rfl); (· rfl); (· rfl); (· rfl); (· rfl); (· rfl); (· exact (by first | exact .nil | exact .own rfl (rmv_q (by first | exact (rfl : _ = []) | exact (rfl : _ = [_]) | exact (rfl : _ = [_, _]) | exact (rfl : _ = [_, _, _]) | exact (rfl : _ = [_, _, _, _]) | exact (rfl : _ = [_, _, _, _, _]) | exact (rfl : _ = [_, _, _, _, _, _]) | exact (rfl : _ = [_, _, _, _, _, _, _]) | exact (rfl : _ = [_, _, _, _, _, _, _, _]) | exact (rfl : _ = [_, _, _, _, _, _, _, _, _]) | exact (rfl : _ = [_, _, _, _, _, _, _, _, _, _]) | exact (rfl : _ = [_, _, _, _, _, _, _, _, _, _, _]) | exact (rfl : _ = [_, _, _, _, _, _, _, _, _, _, _, _]))))); (· show (_ : Nat) ≤ 140737488355328; omega); (· first | rfl | (simp only [freshB, noRefH, OB.cells, refsL_fv, refsL_app]; rfl)))
      | (apply Ops.stoW; (· rfl); (· rfl); (· rfl); (· rfl); (· rfl); (· rfl); (· first | rfl | exact onesB_map _); (· rfl); (· exact rfl); (· exact (by repeat' (first | exact .here | apply Repl.there rfl))))
      | (apply Ops.stoB; (· rfl); (· rfl); (· rfl); (· rfl); (· rfl); (· rfl); (· first | rfl | exact onesB_map _); (· rfl); (· exact rfl); (· exact (by repeat' (first | exact .here | apply Repl.there rfl))))
      | (apply Ops.stoR; (· rfl); (· rfl); (· rfl); (· rfl); (· rfl); (· rfl); (· first | rfl | exact onesB_map _); (· rfl); (· exact rfl); (· exact (by repeat' (first | exact .here | apply Repl.there rfl))))
      | (apply Ops.gand; (· rfl); (· rfl); (· rfl); (· rfl); (· rfl); (· rfl); (· rfl); (· exact (by first | exact .b | exact .w)); (· rfl); (· rfl); (· rfl); (· simp); (· intro hc; first | exact hc | exact hc.1); (· intro hc; exact ⟨fun h => h.2, fun h => ⟨hc, h⟩⟩))
      | (apply Ops.gor; (· rfl); (· rfl); (· rfl); (· rfl); (· rfl); (· rfl); (· rfl); (· exact (by first | exact .b | exact .w)); (· rfl); (· rfl); (· rfl); (· simp); (· intro hc; first | exact hc | exact hc.1); (· intro hc; exact ⟨fun h => h.2, fun h => ⟨hc, h⟩⟩))
      | apply WP.drwL tbl_ok mixed_no rfl
      | ((with_reducible apply drwK.mk); (· kernel_rfl); (· first | rfl | (simp only [freeF, List.all_cons, List.all_nil, noRefH, OB.cells, refsL_fv, refsL_app]; rfl)))
      | fail)
    all_goals (try exact ([] : List Fp))
    · exfalso
      simp at hcond
      omega
    · refine .f1 (.inl rfl) rfl ?_
      have : k = l.length := by omega
      rw [this]
      rfl
  case pos =>
    obtain ⟨f, hf⟩ : ∃ f, l[k]? = some f := ⟨_, List.getElem?_eq_getElem hlt⟩
    have hfm := hm f (List.mem_of_getElem? hf)
    have hst : ∀ b, (((f.table == t && fitsB p f) && (decide (bst l (fun f => f.table == t && fitsB p f) k < 0) || decide (f.prio > (l.getD (bst l (fun f => f.table == t && fitsB p f) k).toNat fl0).prio))) = b) → bst l (fun f => f.table == t && fitsB p f) (k + 1) = if b = true then (k : Int) else bst l (fun f => f.table == t && fitsB p f) k := by
      rintro b rfl
      simp only [bst, hf]
      generalize bst l (fun f => f.table == t && fitsB p f) k = i at hb1 hb2 ⊢
      rcases Int.lt_or_le i 0 with h | h
      · simp [h]
      · rw [prioAt_getD (hb2 h)]
    generalize hbb : bst l (fun f => f.table == t && fitsB p f) k = i at hb1 hb2 hst ⊢
    repeat' (first
      | (apply Ops.loc; (· rfl); (· rfl); (· rfl); (· first | (exact .eff (.idxS rfl rfl rfl encFl_len hf)) | (exact .eff (.idxD fl0 rfl rfl rfl encFl_len (hb2 (by have := hc; simp at this; omega)))) | exact .eff (.mv rfl) | exact .eff (.asg rfl) | exact .eff (.loadO rfl rfl rfl) | exact .eff (.loadF rfl rfl) | exact .eff (.fldO rfl rfl rfl) | exact .eff (.fldF rfl rfl rfl) | (refine .eff (.add64 rfl rfl ?_ ?_) <;> omega) | (refine .eff (.sub64 rfl rfl ?_ ?_) <;> omega) | exact .eff (.lenF rfl rfl) | exact .eff (.lenO rfl rfl rfl) | exact .eff (.lenN rfl rfl) | exact .eff (.lenS rfl rfl) | exact .eff (.isNilF rfl (by omega) rfl (flatMap_len (fun _ => rfl) _)) | exact .eff (.isNilO rfl rfl (by omega) rfl) | exact .eff (.isNilZ rfl rfl rfl) | exact .eff (.lenB rfl rfl) | exact .eff (.idxB rfl rfl rfl (by omega) (by omega)) | exact .eff (.oLH rfl rfl rfl rfl rfl (by omega) (by omega)) | exact .eff (.oL rfl rfl rfl rfl (by omega)) | exact .eff (.oH rfl rfl rfl rfl (by omega)) | exact .eff (.bLH rfl rfl rfl rfl rfl (by omega) (by omega)) | exact .eff (.or rfl rfl rfl) | exact .eff (.and rfl rfl rfl) | exact .eff (.not rfl) | exact .eff (.extract rfl rfl) | (refine .eff (.mul64 rfl rfl ?_ ?_) <;> omega) | exact .eff (.bin rfl rfl rfl) | (refine .eff (.quo64 rfl rfl ?_ ?_ ?_) <;> omega) | (refine .eff (.rem64 rfl rfl ?_ ?_) <;> omega) | exact .eff (.idxPO rfl rfl rfl (by omega) (by omega)) | exact .eff (.idxPF rfl rfl rfl (by omega) (by omega)) | exact .eff (.idxO rfl rfl rfl rfl (by omega) (by omega)) | exact .eff (.buildS rfl rfl rfl rfl) | exact .eff (.eqA rfl rfl rfl rfl rfl) | exact .eff (.neA rfl rfl rfl rfl rfl) | exact .eff (.quo rfl rfl (by decide)) | exact .eff (.rem rfl rfl (by decide)) | exact .eff (.shr rfl rfl (by decide) (by decide)) | exact .eff (.shl rfl rfl (by decide) (by decide)) | exact .eff (.conv rfl rfl rfl) | exact .eff (.strEq rfl rfl) | exact .eff (.strNe rfl rfl) | exact .eff (.mkFn) | exact .eff (.nilO rfl) | exact .eff (.nilF rfl) | exact .eff (.neg rfl) | exact .eff (.max rfl rfl) | exact .eff (.min rfl rfl) | exact .callL rfl rfl rfl (by first | exact fits_T f p hp hfm.1 hfm.2) rfl | (apply LEff.callBL; (· rfl); (· rfl); (· exact fits_T f p hp hfm.1 hfm.2); (· skip; repeat' (first | exact .nil | refine .cons ?_ ?_ | exact .le (.refl _) | exact .row rfl | exact .box rfl | exact .cut rfl (by omega) | exact .le .nil | refine .agg ?_ | refine .fn ?_ | fail)); (· rfl))))
      | with_reducible refine WP.seq ?_
      | with_reducible apply WP.reg tbl_ok rfl
      | with_reducible refine Ops.nil ?_
      | with_reducible refine thenQ.nor ?_
      | with_reducible refine thenQ.ex ?_
      | with_reducible refine thenQ.ret ?_
      | with_reducible refine blockQ.nor ?_
      | with_reducible refine blockQ.ret ?_
      | with_reducible refine blockQ.hit rfl ?_
      | with_reducible refine blockQ.out rfl ?_
      | with_reducible refine WP.block ?_
      | with_reducible refine WP.skip ?_
      | with_reducible refine WP.exit ?_
      | with_reducible refine WP.ret ?_
      | refine WP.condT rfl ?_
      | refine WP.condF rfl ?_
      | refine WP.condBit rfl ?_ ?_
      | (refine WP.cond rfl ?_ ?_ <;> intro hcond)
      | (apply Ops.gst; (· rfl); (· rfl); (· rfl); (· rfl); (· rfl); (· rfl); (· rfl); (· first | exact .b | exact .w); (· intro hc; repeat' (first | exact trivial | exact fun _ => hc | exact fun _ => hc.1 | exact fun _ => ⟨hc.1.1, hc.1.2⟩ | refine And.intro ?_ ?_)); (· intro hc; first | (exact .eff (.idxS rfl rfl rfl encFl_len hf)) | (exact .eff (.idxD fl0 rfl rfl rfl encFl_len (hb2 (by have := hc; simp at this; omega)))) | exact .eff (.mvG rfl) | exact .eff (.asg rfl) | exact .eff (.loadO rfl rfl rfl) | exact .eff (.loadF rfl rfl) | exact .eff (.fldO rfl rfl rfl) | exact .eff (.fldF rfl rfl rfl) | (refine .eff (.add64 rfl rfl ?_ ?_) <;> omega) | (refine .eff (.sub64 rfl rfl ?_ ?_) <;> omega) | exact .eff (.lenF rfl rfl) | exact .eff (.lenO rfl rfl rfl) | exact .eff (.lenN rfl rfl) | exact .eff (.lenS rfl rfl) | exact .eff (.isNilF rfl (by omega) rfl (flatMap_len (fun _ => rfl) _)) | exact .eff (.isNilO rfl rfl (by omega) rfl) | exact .eff (.isNilZ rfl rfl rfl) | exact .eff (.lenB rfl rfl) | exact .eff (.idxB rfl rfl rfl (by omega) (by omega)) | exact .eff (.oLH rfl rfl rfl rfl rfl (by omega) (by omega)) | exact .eff (.oL rfl rfl rfl rfl (by omega)) | exact .eff (.oH rfl rfl rfl rfl (by omega)) | exact .eff (.bLH rfl rfl rfl rfl rfl (by omega) (by omega)) | exact .eff (.or rfl rfl rfl) | exact .eff (.and rfl rfl rfl) | exact .eff (.not rfl) | exact .eff (.extract rfl rfl) | (refine .eff (.mul64 rfl rfl ?_ ?_) <;> omega) | exact .eff (.bin rfl rfl rfl) | (refine .eff (.quo64 rfl rfl ?_ ?_ ?_) <;> omega) | (refine .eff (.rem64 rfl rfl ?_ ?_) <;> omega) | exact .eff (.idxPO rfl rfl rfl (by omega) (by omega)) | exact .eff (.idxPF rfl rfl rfl (by omega) (by omega)) | exact .eff (.idxO rfl rfl rfl rfl (by omega) (by omega)) | exact .eff (.buildS rfl rfl rfl rfl) | exact .eff (.eqA rfl rfl rfl rfl rfl) | exact .eff (.neA rfl rfl rfl rfl rfl) | exact .eff (.quo rfl rfl (by decide)) | exact .eff (.rem rfl rfl (by decide)) | exact .eff (.shr rfl rfl (by decide) (by decide)) | exact .eff (.shl rfl rfl (by decide) (by decide)) | exact .eff (.conv rfl rfl rfl) | exact .eff (.strEq rfl rfl) | exact .eff (.strNe rfl rfl) | exact .eff (.mkFn) | exact .eff (.nilO rfl) | exact .eff (.nilF rfl) | exact .eff (.neg rfl) | exact .eff (.max rfl rfl) | exact .eff (.min rfl rfl) | exact .callG rfl rfl rfl (by first | exact fits_T f p hp hfm.1 hfm.2) rfl | (apply LEff.callBG; (· rfl); (· rfl); (· exact fits_T f p hp hfm.1 hfm.2); (· skip; repeat' (first | exact .nil | refine .cons ?_ ?_ | exact .le (.refl _) | exact .row rfl | exact .box rfl | exact .cut rfl (by omega) | exact .le .nil | refine .agg ?_ | refine .fn ?_ | fail)); (· rfl))); (· rfl); (· rfl))
      | (apply Ops.new; (· rfl); (· rfl); (· rfl); (· first | exact .eff (.box rfl) | exact .eff (.alloc rfl) | exact .eff (.bsliceS rfl rfl rfl rfl rfl) | exact .eff (.mkS rfl rfl rfl rfl (by omega) (by omega)) | exact .eff (.zeroS rfl rfl (by intro l hl; first | cases hl | exact ⟨_, by injection hl with hl; subst hl; rfl⟩) rfl rfl rfl)); (· first | rfl | (simp only [freshB, noRefH, OB.cells, refsL_fv, refsL_app]; rfl)))
      | (apply Ops.app; (· rfl); (· rfl); (· rfl); (· rfl); (· rfl); (· rfl); (· rfl); (· exact (by first | exact .nil | exact .own rfl (rmv_q (by first | exact (rfl : _ = []) | exact (rfl : _ = [_]) | exact (rfl : _ = [_, _]) | exact (rfl : _ = [_, _, _]) | exact (rfl : _ = [_, _, _, _]) | exact (rfl : _ = [_, _, _, _, _]) | exact (rfl : _ = [_, _, _, _, _, _]) | exact (rfl : _ = [_, _, _, _, _, _, _]) | exact (rfl : _ = [_, _, _, _, _, _, _, _]) | exact (rfl : _ = [_, _, _, _, _, _, _, _, _]) | exact (rfl : _ = [_, _, _, _, _, _, _, _, _, _]) | exact (rfl : _ = [_, _, _, _, _, _, _, _, _, _, _]) | exact (rfl : _ = [_, _, _, _, _, _, _, _, _, _, _, _]))))); (· exact (by first | exact .nil | exact .own rfl (by first | rfl | exact onesB_map _) | exact .fz (by first | rfl | (simp; done) | exact (flatMap_len (s := 1) (fun _ => rfl) _).trans (by omega)))); (· rfl); (· show (_ : Nat) ≤ 140737488355328; omega); (· first | rfl | (simp only [freshB, noRefH, OB.cells, refsL_fv, refsL_app]; rfl)))
      | (apply Ops.appS; (· rfl); (· rfl); (· rfl); (· rfl); (· rfl); (· rfl); (· rfl); (· rfl); (· rfl); (· exact (by first | exact .nil | exact .own rfl (rmv_q (by first | exact (rfl : _ = []) | exact (rfl : _ = [_]) | exact (rfl : _ = [_, _]) | exact (rfl : _ = [_, _, _]) | exact (rfl : _ = [_, _, _, _]) | exact (rfl : _ = [_, _, _, _, _]) | exact (rfl : _ = [_, _, _, _, _, _]) | exact (rfl : _ = [_, _, _, _, _, _, _]) | exact (rfl : _ = [_, _, _, _, _, _, _, _]) | exact (rfl : _ = [_, _, _, _, _, _, _, _, _]) | exact (rfl : _ = [_, _, _, _, _, _, _, _, _, _]) | exact (rfl : _ = [_, _, _, _, _, _, _, _, _, _, _]) | exact (rfl : _ = [_, _, _, _, _, _, _, _, _, _, _, _]))))); (· show (_ : Nat) ≤ 140737488355328; omega); (· first | rfl | (simp only [freshB, noRefH, OB.cells, refsL_fv, refsL_app]; rfl)))
      | (apply Ops.stoW; (· rfl); (· rfl); (· rfl); (· rfl); (· rfl); (· rfl); (· first | rfl | exact onesB_map _); (· rfl); (· exact rfl); (· exact (by repeat' (first | exact .here | apply Repl.there rfl))))
      | (apply Ops.stoB; (· rfl); (· rfl); (· rfl); (· rfl); (· rfl); (· rfl); (· first | rfl | exact onesB_map _); (· rfl); (· exact rfl); (· exact (by repeat' (first | exact .here | apply Repl.there rfl))))
      | (apply Ops.stoR; (· rfl); (· rfl); (· rfl); (· rfl); (· rfl); (· rfl); (· first | rfl | exact onesB_map _); (· rfl); (· exact rfl); (· exact (by repeat' (first | exact .here | apply Repl.there rfl))))
      | (apply Ops.gand; (· rfl); (· rfl); (· rfl); (· rfl); (· rfl); (· rfl); (· rfl); (· exact (by first | exact .b | exact .w)); (· rfl); (· rfl); (· rfl); (· simp); (· intro hc; first | exact hc | exact hc.1); (· intro hc; exact ⟨fun h => h.2, fun h => ⟨hc, h⟩⟩))
      | (apply Ops.gor; (· rfl); (· rfl); (· rfl); (· rfl); (· rfl); (· rfl); (· rfl); (· exact (by first | exact .b | exact .w)); (· rfl); (· rfl); (· rfl); (· simp); (· intro hc; first | exact hc | exact hc.1); (· intro hc; exact ⟨fun h => h.2, fun h => ⟨hc, h⟩⟩))
      | apply WP.drwL tbl_ok mixed_no rfl
      | ((with_reducible apply drwK.mk); (· kernel_rfl); (· first | rfl | (simp only [freeF, List.all_cons, List.all_nil, noRefH, OB.cells, refsL_fv, refsL_app]; rfl)))
      | fail)
    all_goals (try exact ([] : List Fp))
    · refine ⟨k + 1, by omega, by omega, ?_⟩
      refine St.le_of ?_ ?_ <;> (repeat' (first | exact trivial | refine ⟨⟨_, rfl, .refl _⟩, ?_⟩ | refine ⟨⟨_, rfl, .any _⟩, ?_⟩ | refine ⟨⟨_, rfl, .of_eq ?_⟩, ?_⟩ | refine ⟨⟨_, rfl, fun _ _ _ _ h => h⟩, ?_⟩ | fail))
      rw [hst _ hcond]
      rfl
    · refine ⟨k + 1, by omega, by omega, ?_⟩
      refine St.le_of ?_ ?_ <;> (repeat' (first | exact trivial | refine ⟨⟨_, rfl, .refl _⟩, ?_⟩ | refine ⟨⟨_, rfl, .any _⟩, ?_⟩ | refine ⟨⟨_, rfl, .of_eq ?_⟩, ?_⟩ | refine ⟨⟨_, rfl, fun _ _ _ _ h => h⟩, ?_⟩ | fail))
      rw [hst _ hcond]
      rfl
    · exfalso
      simp at hcond
      omega
end Go.Proofs.Ytdbbmjdeeenlhaa
