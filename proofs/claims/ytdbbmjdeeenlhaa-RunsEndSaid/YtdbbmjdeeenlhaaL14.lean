/- A logic of memory: more steps of a walk. -/
import Derived.Test.YtdbbmjdeeenlhaaL10
namespace Go.Proofs.Ytdbbmjdeeenlhaa
open Go.RowKit

section
variable {P : Program} {T : Tbl} {n i : Nat} {ops : Array Oper} {l : List Oper} {fps : List Fp} {K : St → Prop} {t : List (Nat × AV)} {H H' : Own} {o : Oper} {d : Nat} {r : AV}
theorem setC_whole : ∀ {cs us : List AV}, us.length = cs.length → setC cs 0 us = some us
  | [], [], _ => rfl
  | _ :: cs, u :: us, h => by simp only [setC]; rw [setC_whole (by simpa using h)]
  | [], _ :: _, h => by cases h
  | _ :: _, [], h => by cases h
/-- A store of all of a box, of a part of it, of a part of a row. -/
theorem Ops.stoW {ty g bt : Nat} {x y : Operand} {c0 us : List AV} (hg : o.guard = none) (hd : o.dst = none) (hop : o.op = .store ty x y) (hx : evO t x = some (.optr g 0)) (hob : lk H g = some (.box bt c0)) (hy : (evO t y).bind cells1 = some us) (h1 : onesB us = true) (hs : sizeB T ty us.length = true) (hlen : Nat.beq us.length c0.length = true) (hr : Repl g (.box bt c0) (.box bt us) H H')
    (hK : OpsL P T n ops (i + 1) l fps K ⟨t, H'⟩) : OpsL P T n ops i (o :: l) (⟨[g], [g], []⟩ :: fps) K ⟨t, H⟩ := by
  refine ⟨_, _, rfl, fun ho => ?_⟩
  cases hye : evO t y with
  | none => rw [hye] at hy; cases hy
  | some a =>
    rw [hye] at hy
    exact ⟨_, .sto ho hg hd hop (evO_ev (st := ⟨t, H⟩) hx) hob (by rw [evO_ev (st := ⟨t, H⟩) hye]; exact hy) h1 hs (setC_whole (Nat.eq_of_beq_eq_true hlen)) hr.lk.2, hK.out⟩
theorem Ops.stoB {ty g off bt : Nat} {x y : Operand} {c0 us cs : List AV} (hg : o.guard = none) (hd : o.dst = none) (hop : o.op = .store ty x y) (hx : evO t x = some (.optr g off)) (hob : lk H g = some (.box bt c0)) (hy : (evO t y).bind cells1 = some us) (h1 : onesB us = true) (hs : sizeB T ty us.length = true) (hset : setC c0 off us = some cs) (hr : Repl g (.box bt c0) (.box bt cs) H H')
    (hK : OpsL P T n ops (i + 1) l fps K ⟨t, H'⟩) : OpsL P T n ops i (o :: l) (⟨[g], [g], []⟩ :: fps) K ⟨t, H⟩ := by
  refine ⟨_, _, rfl, fun ho => ?_⟩
  cases hye : evO t y with
  | none => rw [hye] at hy; cases hy
  | some a =>
    rw [hye] at hy
    exact ⟨_, .sto ho hg hd hop (evO_ev (st := ⟨t, H⟩) hx) hob (by rw [evO_ev (st := ⟨t, H⟩) hye]; exact hy) h1 hs hset hr.lk.2, hK.out⟩
theorem Ops.stoR {ty g off e s m : Nat} {x y : Operand} {c0 us cs : List AV} (hg : o.guard = none) (hd : o.dst = none) (hop : o.op = .store ty x y) (hx : evO t x = some (.optr g off)) (hob : lk H g = some (.row e s m c0)) (hy : (evO t y).bind cells1 = some us) (h1 : onesB us = true) (hs : sizeB T ty us.length = true) (hset : setC c0 off us = some cs) (hr : Repl g (.row e s m c0) (.row e s m cs) H H')
    (hK : OpsL P T n ops (i + 1) l fps K ⟨t, H'⟩) : OpsL P T n ops i (o :: l) (⟨[g], [g], []⟩ :: fps) K ⟨t, H⟩ := by
  refine ⟨_, _, rfl, fun ho => ?_⟩
  cases hye : evO t y with
  | none => rw [hye] at hy; cases hy
  | some a =>
    rw [hye] at hy
    exact ⟨_, .sto ho hg hd hop (evO_ev (st := ⟨t, H⟩) hx) hob (by rw [evO_ev (st := ⟨t, H⟩) hye]; exact hy) h1 hs hset hr.lk.2, hK.out⟩
/-- An append. -/
theorem Ops.app {ty e s b k m : Nat} {x y : Operand} {ax ay : AV} {cs news : List AV} (hg : o.guard = none) (hd : o.dst = some d) (hn : Nat.blt d n = true) (hop : o.op = .call { callee := .builtin .append, args := #[x, y], argTypes := #[ty, ty] }) (hty : lk T.sli ty = some (e, s, b)) (hx : evO t x = some ax) (hy : evO t y = some ay) (hB : ABase H e s ax k cs H') (hS : ASrc H s ay m news)
    (hb : Nat.blt 0 b = true) (hby : (k + m) * b ≤ 140737488355328) (hf : freshB ⟨t, H⟩ [(d, .row e s (k + m) (cs ++ news))] = true) (hK : OpsL P T n ops (i + 1) l fps K ⟨(d, .osl d) :: t, (d, .row e s (k + m) (cs ++ news)) :: H'⟩) : OpsL P T n ops i (o :: l) (⟨baseN ax ++ baseN ay, d :: baseN ax, [d]⟩ :: fps) K ⟨t, H⟩ :=
  ⟨_, _, rfl, fun ho => ⟨_, by
    have e1 := evO_ev (st := ⟨t, H⟩) hx
    have e2 := evO_ev (st := ⟨t, H⟩) hy
    have := Step.app (P := P) (T := T) (n := n) (st := ⟨t, H⟩) (d := d) (k := k) (m := m) (cs := cs) (news := news) ho hg hd (by simpa [Nat.blt_eq] using hn) hop hty (by rw [e1]; exact hB) (by rw [e2]; exact hS) (by
      have hb' : 0 < b := by simpa [Nat.blt_eq] using hb
      have := Nat.le_mul_of_pos_right (k + m) hb'
      unfold maxLen
      omega) hby (freshB_mem hf)
    rw [e1, e2] at this
    exact this, hK.out⟩⟩
end
theorem rmv_q {g : Nat} {H H' : Own} (h : rmv g H = H') : RmvP g H H' := h ▸ rmv_p g H
theorem AV.Le.of_eq {a b : AV} (h : a = b) : AV.Le a b := h ▸ .refl a
/-- What a function leaves is nobody's. -/
theorem Fun.body {P : Program} {T : Tbl} {f : FuncId} {fn : Func} {c : Code} {n : Nat} {args : List AV} {r : AV} (hT : T.Ok P) (hf : P.funcs[f]? = some fn) (hb : fn.body = some c) (hen : enterB P f = true) (hn : fn.ntmps = n) (hargs : Nat.ble args.length n = true) {rvs : List ResultVar} (hrv : fn.results.toList = rvs)
    (h : WP P n c (Post T rvs fun r' _ => r' = r) ⟨argT 0 args, []⟩) : Fun P f args r := by
  have ht := Triple.body (Q := fun r' _ => r' = r) hT hf hb hen hn hargs hrv h
  refine ⟨ht.1, fun σ Z w vs hI hr => (ht.2 σ Z w vs hI hr).mono ?_⟩
  rintro e w' ⟨v, r', own', σ', Z', rfl, rfl, hI', hr'⟩
  exact ⟨v, r', [], σ', Z', rfl, ⟨rfl, rfl⟩, hI'.le (fun g ob h => by simp [lk] at h), hr'⟩
theorem Post.fun {T : Tbl} {rvs : List ResultVar} {r : AV} {e : Exit} {s : St} {rs : List AV} (he : e = .ret ∨ e = .normal) (h1 : retL T s rvs = some rs) (h2 : retA rs = r) : Post T rvs (fun r' _ => r' = r) e s := by
  rcases he with rfl | rfl <;> exact ⟨_, .refl _, rs, h1, h2⟩
theorem Post.f1 {T : Tbl} {rvs : List ResultVar} {f f' : FV} {e : Exit} {s : St} (he : e = .ret ∨ e = .normal) (h1 : retL T s rvs = some [.fv f]) (h2 : f = f') : Post T rvs (fun r' _ => r' = .fv f') e s := by
  subst h2
  rcases he with rfl | rfl <;> exact ⟨_, .refl _, _, h1, rfl⟩
end Go.Proofs.Ytdbbmjdeeenlhaa
