import Derived.Test.YtmidechdlbcepaaGreatPack22
set_option linter.unusedSimpArgs false
set_option linter.unusedVariables false
namespace Go.Proofs.YtmidechdlbcepaaGreat
open Go.RowKit
def getP (p : Pk) : Nat → Int
  | 0 => p.f0
  | 1 => p.f1
  | 2 => p.f2
  | 3 => p.f3
  | 4 => p.f4
  | 5 => p.f5
  | 6 => p.f6
  | 7 => p.f7
  | 8 => p.f8
  | _ => p.f9
def setP (p : Pk) (i : Nat) (v : Int) : Pk :=
  match i with
  | 0 => { p with f0 := v }
  | 1 => { p with f1 := v }
  | 2 => { p with f2 := v }
  | 3 => { p with f3 := v }
  | 4 => { p with f4 := v }
  | 5 => { p with f5 := v }
  | 6 => { p with f6 := v }
  | 7 => { p with f7 := v }
  | 8 => { p with f8 := v }
  | _ => { p with f9 := v }
def Pk.Wd (p : Pk) : Prop := ∀ i, i < 10 → word (getP p i) = true
theorem setP_wd {p : Pk} (h : p.Wd) (i : Nat) {v : Int} (hv : word v = true) : (setP p i v).Wd := by
  intro j hj
  have hs : getP (setP p i v) j = v ∨ getP (setP p i v) j = getP p j := by
    unfold setP
    split <;> (unfold getP; split <;> simp)
  rcases hs with e | e <;> rw [e]
  · exact hv
  · exact h j hj
def fitsB (p : Pk) (f : Fl) : Bool := f.ms.all fun m => maskd (getP p m.field.toNat) m.mask == m.value
def prioAt (l : List Fl) (i : Int) : Int := match l[i.toNat]? with
  | some f => f.prio
  | none => 0
def bst (l : List Fl) (q : Fl → Bool) : Nat → Int
  | 0 => -1
  | k + 1 => match l[k]? with
    | some f => if (q f && (decide (bst l q k < 0) || decide (f.prio > prioAt l (bst l q k)))) = true then k else bst l q k
    | none => bst l q k
def IsB (l : List Fl) (q : Fl → Bool) (a b : Nat) (i : Int) : Prop :=
  (i = -1 ∧ ∀ j f, a ≤ j → j < b → l[j]? = some f → q f = false) ∨
  (∃ k g, i = ((k : Nat) : Int) ∧ a ≤ k ∧ k < b ∧ l[k]? = some g ∧ q g = true ∧ ∀ j f, a ≤ j → j < b → l[j]? = some f → q f = true → f.prio ≤ g.prio ∧ (j < k → f.prio < g.prio))
theorem prioAt_nat {l : List Fl} {k : Nat} {g : Fl} (h : l[k]? = some g) : prioAt l (k : Int) = g.prio := by
  unfold prioAt
  rw [Int.toNat_natCast, h]
theorem bst_is (l : List Fl) (q : Fl → Bool) : ∀ k, k ≤ l.length → IsB l q 0 k (bst l q k)
  | 0, _ => .inl ⟨rfl, fun j f _ h => by omega⟩
  | k + 1, hk => by
    have ih := bst_is l q k (by omega)
    obtain ⟨f, hf⟩ : ∃ f, l[k]? = some f := ⟨_, List.getElem?_eq_getElem (by omega)⟩
    simp only [bst, hf]
    split
    · rename_i hc
      simp only [Bool.and_eq_true, Bool.or_eq_true, decide_eq_true_eq] at hc
      refine .inr ⟨k, f, rfl, by omega, by omega, hf, hc.1, fun j g _ hj hg hq => ?_⟩
      rcases Nat.lt_or_ge j k with hlt | hge
      · rcases ih with ⟨_, h2⟩ | ⟨m, x, h1, _, hm, hx, hqx, h2⟩
        · have := h2 j g (by omega) hlt hg
          rw [hq] at this
          cases this
        · have h3 := h2 j g (by omega) hlt hg hq
          rcases hc.2 with h4 | h4
          · omega
          · rw [h1, prioAt_nat hx] at h4
            omega
      · obtain rfl : j = k := by omega
        rw [hf] at hg
        obtain rfl := Option.some.inj hg
        exact ⟨Int.le_refl _, fun h => by omega⟩
    · rename_i hc
      rcases ih with ⟨h1, h2⟩ | ⟨m, x, h1, h3, hm, hx, hqx, h2⟩
      · refine .inl ⟨h1, fun j g _ hj hg => ?_⟩
        rcases Nat.lt_or_ge j k with hlt | hge
        · exact h2 j g (by omega) hlt hg
        · obtain rfl : j = k := by omega
          rw [hf] at hg
          obtain rfl := Option.some.inj hg
          cases hq : q f with
          | false => rfl
          | true => exfalso; apply hc; simp [hq, h1]
      · refine .inr ⟨m, x, h1, h3, by omega, hx, hqx, fun j g _ hj hg hq => ?_⟩
        rcases Nat.lt_or_ge j k with hlt | hge
        · exact h2 j g (by omega) hlt hg hq
        · obtain rfl : j = k := by omega
          rw [hf] at hg
          obtain rfl := Option.some.inj hg
          refine ⟨?_, fun h => by omega⟩
          rw [hq, h1, prioAt_nat hx] at hc
          simp at hc
          omega
structure Snt where
  kind : Int
  n : Int
  p : Pk
def encSnt (s : Snt) : List FV := [.int .i64 s.kind, .int .i64 s.n] ++ encPk s.p
theorem encSnt_len (s : Snt) : (encSnt s).length = 13 := rfl
structure Rs where
  p : Pk
  table : Int
  out : List Snt
def stepD (s : Rs) (d : Dx) : Rs :=
  if d.kind = 1 then { s with p := setP s.p d.a.toNat d.n }
  else if d.kind = 2 then { s with p := setP s.p d.a.toNat (getP s.p d.n.toNat) }
  else if d.kind = 3 then { s with p := setP s.p d.a.toNat (if 0 > getP s.p d.a.toNat - 1 then 0 else getP s.p d.a.toNat - 1) }
  else if d.kind = 4 then { s with table := d.n }
  else { s with out := s.out ++ [⟨d.kind, d.n, s.p⟩] }
def bestOf (l : List Fl) (t : Int) (p : Pk) : Int := bst l (fun f => f.table == t && fitsB p f) l.length
def execT (l : List Fl) (s : Rs) : Rs := match l[(bestOf l s.table s.p).toNat]? with
  | some f => if bestOf l s.table s.p < 0 then { s with table := -1 } else f.ds.foldl stepD { s with table := -1 }
  | none => { s with table := -1 }
def runN (l : List Fl) : Nat → Rs → Rs
  | 0, s => s
  | n + 1, s => runN l n (if s.table = 7 - n then execT l s else s)
theorem runN_done (l : List Fl) : ∀ (n : Nat) (s : Rs), s.table < 0 → n ≤ 8 → runN l n s = s
  | 0, _, _, _ => rfl
  | n + 1, s, h, hn => by rw [runN, if_neg (by omega), runN_done l n s h (by omega)]
theorem runN_skip (l : List Fl) (k : Nat) : ∀ (n : Nat) (s : Rs), s.table = 7 - (k : Int) → k ≤ n → runN l (n + 1) s = runN l (k + 1) s
  | n, s, h, hk => by
    rcases Nat.lt_or_ge k n with hlt | hge
    · obtain ⟨m, rfl⟩ : ∃ m, n = m + 1 := ⟨n - 1, by omega⟩
      rw [runN, if_neg (by omega), runN_skip l k m s h (by omega)]
    · obtain rfl : n = k := by omega
      rfl
def ranOf (l : List Fl) (p : Pk) : List Snt := (runN l 8 ⟨p, 0, []⟩).out
theorem flsFault_mem : ∀ {l : List Fl} {f : Fl}, flsFault l = 0 → f ∈ l → flFault f = 0
  | g :: l, f, h, hf => by
    unfold flsFault at h
    split at h
    · rename_i h0
      rcases List.mem_cons.1 hf with rfl | hf
      · exact h0
      · exact flsFault_mem h hf
    · rename_i h0
      exact absurd h h0
structure FlMay (f : Fl) : Prop where
  ms : f.ms.length ≤ 12
  ds : f.ds.length ≤ 100
  table : 0 ≤ f.table ∧ f.table ≤ 7
  mok : f.ms.all mxOk = true
  dok : dxOk f.table f.ds = true
theorem flMay {f : Fl} (h : flFault f = 0) : FlMay f := by
  unfold flFault at h
  split at h
  · omega
  · split at h
    · omega
    · split at h
      · omega
      · split at h
        · omega
        · rename_i h1 h2 h3 h4
          have h5 : inR f.table 0 7 = true := by
            cases e : inR f.table 0 7 with
            | true => rfl
            | false => exact absurd (Or.inl e) h2
          exact ⟨by omega, by omega, inR_iff.1 h5, by simpa using h3, by simpa using h4⟩
theorem flowsMay {l : List Fl} (h : flowsFault l = 0) : l.length ≤ 5000 ∧ ∀ f ∈ l, FlMay f := by
  unfold flowsFault at h
  split at h
  · omega
  · exact ⟨by omega, fun f hf => flMay (flsFault_mem h hf)⟩
theorem dxOk_mem {t : Int} : ∀ {l : List Dx} {d : Dx}, dxOk t l = true → d ∈ l → ∃ b, dxMay d t b = true
  | e :: l, d, h, hd => by
    simp only [dxOk, Bool.and_eq_true] at h
    rcases List.mem_cons.1 hd with rfl | hd
    · exact ⟨_, h.1⟩
    · exact dxOk_mem h.2 hd
theorem dxMay_use {d : Dx} {t : Int} {b : Bool} (h : dxMay d t b = true) : (d.kind = 1 → (0 ≤ d.a ∧ d.a ≤ 9) ∧ word d.n = true) ∧ (d.kind = 2 → (0 ≤ d.a ∧ d.a ≤ 9) ∧ (0 ≤ d.n ∧ d.n ≤ 9)) ∧ (d.kind = 3 → 0 ≤ d.a ∧ d.a ≤ 9) ∧ (d.kind = 4 → t < d.n ∧ d.n ≤ 7) ∧ (d.kind = 1 ∨ d.kind = 2 ∨ d.kind = 3 ∨ d.kind = 4 ∨ d.kind = 5 ∨ d.kind = 6) := by
  unfold dxMay at h
  repeat' split at h
  all_goals try simp only [Bool.and_eq_true, inR_iff, decide_eq_true_eq] at h
  all_goals first
    | (refine ⟨fun e => ?_, fun e => ?_, fun e => ?_, fun e => ?_, ?_⟩ <;> first | omega | (exfalso; omega) | exact ⟨h.1, h.2⟩ | exact h.1)
    | cases h
section
variable {P : Program} {T : Tbl} {n i : Nat} {ops : Array Oper} {l : List Oper} {fps : List Fp} {K : St → Prop} {t : List (Nat × AV)} {H H' : Own} {o : Oper} {d : Nat} {r : AV}
theorem setC_whole : ∀ {cs us : List AV}, us.length = cs.length → setC cs 0 us = some us
  | [], [], _ => rfl
  | _ :: cs, u :: us, h => by simp only [setC]; rw [setC_whole (by simpa using h)]
  | [], _ :: _, h => by cases h
  | _ :: _, [], h => by cases h
theorem Ops.stoW {ty g bt : Nat} {x y : Operand} {c0 us : List AV} (hg : o.guard = none) (hd : o.dst = none) (hop : o.op = .store ty x y) (hx : evO t x = some (.optr g 0)) (hob : lk H g = some (.box bt c0)) (hy : (evO t y).bind cells1 = some us) (h1 : onesB us = true) (hs : sizeB T ty us.length = true) (hlen : Nat.beq us.length c0.length = true) (hr : Repl g (.box bt c0) (.box bt us) H H')
    (hK : OpsL P T n ops (i + 1) l fps K ⟨t, H'⟩) : OpsL P T n ops i (o :: l) (⟨[g], [g], []⟩ :: fps) K ⟨t, H⟩ := by
  refine ⟨_, _, rfl, fun ho => ?_⟩
  cases hye : evO t y with
  | none => rw [hye] at hy; cases hy
  | some a =>
    rw [hye] at hy
    exact ⟨_, .sto ho hg hd hop (evO_ev (st := ⟨t, H⟩) hx) hob (by rw [evO_ev (st := ⟨t, H⟩) hye]; exact hy) h1 hs (setC_whole (Nat.eq_of_beq_eq_true hlen)) hr.lk.2, hK.out⟩
theorem Ops.stoB {ty g off bt : Nat} {x y : Operand} {c0 us cs : List AV} (hg : o.guard = none) (hd : o.dst = none) (hop : o.op = .store ty x y) (hx : evO t x = some (.optr g off)) (hob : lk H g = some (.box bt c0)) (hy : (evO t y).bind cells1 = some us) (h1 : onesB us = true) (hs : sizeB T ty us.length = true) (hset : setC c0 off us = some cs) (hr : Repl g (.box bt c0) (.box bt cs) H H')
    (hK : OpsL P T n ops (i + 1) l fps K ⟨t, H'⟩) : OpsL P T n ops i (o :: l) (⟨[g], [g], []⟩ :: fps) K ⟨t, H⟩ := by
  refine ⟨_, _, rfl, fun ho => ?_⟩
  cases hye : evO t y with
  | none => rw [hye] at hy; cases hy
  | some a =>
    rw [hye] at hy
    exact ⟨_, .sto ho hg hd hop (evO_ev (st := ⟨t, H⟩) hx) hob (by rw [evO_ev (st := ⟨t, H⟩) hye]; exact hy) h1 hs hset hr.lk.2, hK.out⟩
theorem Ops.stoR {ty g off e s m : Nat} {x y : Operand} {c0 us cs : List AV} (hg : o.guard = none) (hd : o.dst = none) (hop : o.op = .store ty x y) (hx : evO t x = some (.optr g off)) (hob : lk H g = some (.row e s m c0)) (hy : (evO t y).bind cells1 = some us) (h1 : onesB us = true) (hs : sizeB T ty us.length = true) (hset : setC c0 off us = some cs) (hr : Repl g (.row e s m c0) (.row e s m cs) H H')
    (hK : OpsL P T n ops (i + 1) l fps K ⟨t, H'⟩) : OpsL P T n ops i (o :: l) (⟨[g], [g], []⟩ :: fps) K ⟨t, H⟩ := by
  refine ⟨_, _, rfl, fun ho => ?_⟩
  cases hye : evO t y with
  | none => rw [hye] at hy; cases hy
  | some a =>
    rw [hye] at hy
    exact ⟨_, .sto ho hg hd hop (evO_ev (st := ⟨t, H⟩) hx) hob (by rw [evO_ev (st := ⟨t, H⟩) hye]; exact hy) h1 hs hset hr.lk.2, hK.out⟩
theorem Ops.app {ty e s b k m : Nat} {x y : Operand} {ax ay : AV} {cs news : List AV} (hg : o.guard = none) (hd : o.dst = some d) (hn : Nat.blt d n = true) (hop : o.op = .call { callee := .builtin .append, args := #[x, y], argTypes := #[ty, ty] }) (hty : lk T.sli ty = some (e, s, b)) (hx : evO t x = some ax) (hy : evO t y = some ay) (hB : ABase H e s ax k cs H') (hS : ASrc H s ay m news)
    (hb : Nat.blt 0 b = true) (hby : (k + m) * b ≤ 140737488355328) (hf : freshB ⟨t, H⟩ [(d, .row e s (k + m) (cs ++ news))] = true) (hK : OpsL P T n ops (i + 1) l fps K ⟨(d, .osl d) :: t, (d, .row e s (k + m) (cs ++ news)) :: H'⟩) : OpsL P T n ops i (o :: l) (⟨baseN ax ++ baseN ay, d :: baseN ax, [d]⟩ :: fps) K ⟨t, H⟩ :=
  ⟨_, _, rfl, fun ho => ⟨_, by
    have e1 := evO_ev (st := ⟨t, H⟩) hx
    have e2 := evO_ev (st := ⟨t, H⟩) hy
    have := Step.app (P := P) (T := T) (n := n) (st := ⟨t, H⟩) (d := d) (k := k) (m := m) (cs := cs) (news := news) ho hg hd (by simpa [Nat.blt_eq] using hn) hop hty (by rw [e1]; exact hB) (by rw [e2]; exact hS) (by
      have hb' : 0 < b := by simpa [Nat.blt_eq] using hb
      have := Nat.le_mul_of_pos_right (k + m) hb'
      unfold maxLen
      omega) hby (freshB_mem hf)
    rw [e1, e2] at this
    exact this, hK.out⟩⟩
end
theorem rmv_q {g : Nat} {H H' : Own} (h : rmv g H = H') : RmvP g H H' := h ▸ rmv_p g H
theorem AV.Le.of_eq {a b : AV} (h : a = b) : AV.Le a b := h ▸ .refl a
theorem Fun.body {P : Program} {T : Tbl} {f : FuncId} {fn : Func} {c : Code} {n : Nat} {args : List AV} {r : AV} (hT : T.Ok P) (hf : P.funcs[f]? = some fn) (hb : fn.body = some c) (hen : enterB P f = true) (hn : fn.ntmps = n) (hargs : Nat.ble args.length n = true) {rvs : List ResultVar} (hrv : fn.results.toList = rvs)
    (h : WP P n c (Post T rvs fun r' _ => r' = r) ⟨argT 0 args, []⟩) : Fun P f args r := by
  have ht := Triple.body (Q := fun r' _ => r' = r) hT hf hb hen hn hargs hrv h
  refine ⟨ht.1, fun σ Z w vs hI hr => (ht.2 σ Z w vs hI hr).mono ?_⟩
  rintro e w' ⟨v, r', own', σ', Z', rfl, rfl, hI', hr'⟩
  exact ⟨v, r', [], σ', Z', rfl, ⟨rfl, rfl⟩, hI'.le (fun g ob h => by simp [lk] at h), hr'⟩
theorem Post.fun {T : Tbl} {rvs : List ResultVar} {r : AV} {e : Exit} {s : St} {rs : List AV} (he : e = .ret ∨ e = .normal) (h1 : retL T s rvs = some rs) (h2 : retA rs = r) : Post T rvs (fun r' _ => r' = r) e s := by
  rcases he with rfl | rfl <;> exact ⟨_, .refl _, rs, h1, h2⟩
theorem Post.f1 {T : Tbl} {rvs : List ResultVar} {f f' : FV} {e : Exit} {s : St} (he : e = .ret ∨ e = .normal) (h1 : retL T s rvs = some [.fv f]) (h2 : f = f') : Post T rvs (fun r' _ => r' = .fv f') e s := by
  subst h2
  rcases he with rfl | rfl <;> exact ⟨_, .refl _, _, h1, rfl⟩
end Go.Proofs.YtmidechdlbcepaaGreat
namespace Go.Proofs.YtmidechdlbcepaaGreat
open Go.RowKit
inductive Whence where
  | id (g : Nat)
  | cut (g n : Nat)
  | nil
def Whence.src : Whence → Option Nat
  | .id g => some g
  | .cut g _ => some g
  | .nil => none

mutual
inductive AV.To (φ : List (Nat × Whence)) (F : List Nat) (H : Own) : AV → AV → Prop
  | le {b a : AV} : AV.Le b a → a.flat = true → AV.To φ F H b a
  | any {b : AV} : AV.To φ F H b .any
  | ptr {g g' off : Nat} : lk φ g' = some (.id g) → AV.To φ F H (.optr g off) (.optr g' off)
  | sl {g g' : Nat} : lk φ g' = some (.id g) → AV.To φ F H (.osl g) (.osl g')
  | ptr0 {g off : Nat} : lk φ g = none → AV.To φ F H (.optr g off) (.optr g off)
  | sl0 {g : Nat} : lk φ g = none → AV.To φ F H (.osl g) (.osl g)
  | nil {g' : Nat} : lk φ g' = some .nil → AV.To φ F H .nil (.osl g')
  | cut {g g' n s : Nat} : lk φ g' = some (.cut g n) → AV.To φ F H (.osb g 0 n s) (.osl g')
  | sb {g g' lo n s : Nat} : lk φ g' = some (.id g) → AV.To φ F H (.osb g lo n s) (.osb g' lo n s)
  | sb0 {g lo n s : Nat} : lk φ g = none → AV.To φ F H (.osb g lo n s) (.osb g lo n s)
  | frz {g e s n : Nat} {us : List FV} {cs : List AV} : lk H g = some (.row e s n cs) → cs = us.map .fv → (F.contains g) = true → AV.To φ F H (.osl g) (.fv (.sl us n))
  | frb {g e s N lo n : Nat} {us : List FV} {cs : List AV} : lk H g = some (.row e s N cs) → cs = us.map .fv → lo + n ≤ N → (F.contains g) = true → AV.To φ F H (.osb g lo n s) (.fv (.sl ((us.drop (lo * s)).take (n * s)) n))
  | frp {g t off : Nat} {us : List FV} {cs : List AV} : lk H g = some (.box t cs) → cs = us.map .fv → (F.contains g) = true → AV.To φ F H (.optr g off) (.fptr (us.drop off))
  | agg {bs as : List AV} : AV.ToL φ F H bs as → AV.To φ F H (.agg bs) (.agg as)
  | tup {bs as : List AV} : AV.ToL φ F H bs as → AV.To φ F H (.tup bs) (.tup as)
  | fn {f : FuncId} {bs as : List AV} : AV.ToL φ F H bs as → AV.To φ F H (.fn f bs) (.fn f as)
inductive AV.ToL (φ : List (Nat × Whence)) (F : List Nat) (H : Own) : List AV → List AV → Prop
  | nil : AV.ToL φ F H [] []
  | cons {b a : AV} {bs as : List AV} : AV.To φ F H b a → AV.ToL φ F H bs as → AV.ToL φ F H (b :: bs) (a :: as)
end
theorem AV.ToL.maps {φ : List (Nat × Whence)} {F : List Nat} {H : Own} {us us' : List FV} (h : us = us') : AV.ToL φ F H (us.map .fv) (us'.map .fv) := by
  subst h
  induction us with
  | nil => exact .nil
  | cons u us ih => exact .cons (.le (.refl _) rfl) ih
theorem AV.ToL.ofEq {φ : List (Nat × Whence)} {F : List Nat} {H : Own} {bs : List AV} {us : List FV} (h : bs = us.map .fv) : AV.ToL φ F H bs (us.map .fv) := by
  subst h
  exact .maps rfl

def whence (φ : List (Nat × Whence)) (g' : Nat) : Whence := (lk φ g').getD (.id g')
inductive OB.To (φ : List (Nat × Whence)) (F : List Nat) (H : Own) (g' : Nat) : OB → Prop
  | nil {e s : Nat} : lk φ g' = some .nil → OB.To φ F H g' (.row e s 0 [])
  | row {g e s n n' : Nat} {cs cs' : List AV} : whence φ g' = .id g → lk H g = some (.row e s n cs) → n = n' → AV.ToL φ F H cs cs' → OB.To φ F H g' (.row e s n' cs')
  | cut {g e s N n n' : Nat} {cs cs2 cs' : List AV} : whence φ g' = .cut g n → lk H g = some (.row e s N cs) → n ≤ N → n = n' → cs.take (n * s) = cs2 → AV.ToL φ F H cs2 cs' → OB.To φ F H g' (.row e s n' cs')
  | box {g t : Nat} {cs cs' : List AV} : whence φ g' = .id g → lk H g = some (.box t cs) → AV.ToL φ F H cs cs' → OB.To φ F H g' (.box t cs')

def srcsB (φ : List (Nat × Whence)) (F : List Nat) : Own → Bool
  | [] => true
  | (g', _) :: l => (match (whence φ g').src with
    | none => true
    | some g => !F.contains g && l.all fun p => Nat.beq p.1 g' || (match (whence φ p.1).src with | some k => !Nat.beq k g | none => true)) && srcsB φ F l
def namesB (φ : List (Nat × Whence)) : Bool := φ.all fun p => Nat.blt p.1 1000

def toT (φ : List (Nat × Whence)) (F : List Nat) (H : Own) (t : List (Nat × AV)) : List (Nat × AV) → Prop
  | [] => True
  | (i, a) :: l => (∃ b, lk t i = some b ∧ AV.To φ F H b a) ∧ toT φ F H t l
def toH (φ : List (Nat × Whence)) (F : List Nat) (H : Own) : Own → Prop
  | [] => True
  | (g', ob) :: l => OB.To φ F H g' ob ∧ toH φ F H l

section
variable {C : Ctx} {H : Own} {σ : Nat → Value} {Z : Nat → Prop} {w : World} {φ : List (Nat × Whence)} {F : List Nat}
def cutV (n : Nat) : Value → Value
  | .slice A _ c => .slice A n c
  | v => v
theorem cutV_blk (n : Nat) (v : Value) : blk (cutV n v) = blk v := by
  cases v with
  | slice A m c =>
    cases A with
    | none => rfl
    | some a => cases c <;> rfl
  | _ => rfl
def newσ (φ : List (Nat × Whence)) (σ : Nat → Value) : Nat → Value := fun g' => match lk φ g' with
  | some (.id g) => σ g
  | some (.cut g n) => cutV n (σ g)
  | some .nil => .slice none 0 0
  | none => σ g'
def newZ (F : List Nat) (H : Own) (σ : Nat → Value) (Z : Nat → Prop) : Nat → Prop := fun b => Z b ∨ ∃ g ob, F.contains g = true ∧ lk H g = some ob ∧ blk (σ g) = some b
mutual
theorem AV.To.rep (hI : Inv C H σ Z w) {b a : AV} {v : Value} (h : AV.To φ F H b a) (hr : b.Rep σ Z w v) : a.Rep (newσ φ σ) (newZ F H σ Z) w v := by
  cases h with
  | le h hf => exact AV.Rep.mono (fun _ _ => rfl) (fun _ h => .inl h) (fun g hg => by rw [AV.flat_refs hf] at hg; cases hg) (h σ Z w v hr)
  | any => trivial
  | @ptr g g' off h =>
    obtain ⟨x, h1, h2⟩ := hr
    exact ⟨x, by simp only [newσ, h]; exact h1, h2⟩
  | @sl g g' h => exact ⟨by simp only [newσ, h]; exact hr.1, hr.2⟩
  | @ptr0 g off h =>
    obtain ⟨x, h1, h2⟩ := hr
    exact ⟨x, by simp only [newσ, h]; exact h1, h2⟩
  | @sl0 g h => exact ⟨by simp only [newσ, h]; exact hr.1, hr.2⟩
  | @nil g' h =>
    have : v = .slice none 0 0 := hr
    exact ⟨by simp only [newσ, h]; exact this, _, _, _, this⟩
  | @cut g g' n s h =>
    obtain ⟨A, c, A0, N, cap, rfl, q2, q3, q4, q5, q6⟩ := hr
    have := q5 rfl
    subst this
    have hc : c = cap := by omega
    subst hc
    refine ⟨?_, _, _, _, rfl⟩
    simp only [newσ, h]
    rw [q2]
    rfl
  | @sb g g' lo n s h =>
    obtain ⟨A, c, A0, N, cap, q1, q2, q3⟩ := hr
    exact ⟨A, c, A0, N, cap, q1, by simp only [newσ, h]; exact q2, q3⟩
  | @sb0 g lo n s h =>
    obtain ⟨A, c, A0, N, cap, q1, q2, q3⟩ := hr
    exact ⟨A, c, A0, N, cap, q1, by simp only [newσ, h]; exact q2, q3⟩
  | @frb g e s N lo n us cs h hc h2 hF =>
    subst hc
    exact cut_fv (hI.has g _ h) h2 hr (fun _ h => .inl h) (fun b hb => .inr ⟨g, _, hF, h, hb⟩)
  | @frz g e s n us cs h hc hF =>
    subst hc
    obtain ⟨rfl, _⟩ := hr
    exact row_fv (hI.has g _ h) (fun _ h => .inl h) (fun b hb => .inr ⟨g, _, hF, h, hb⟩)
  | @frp g t off us cs h hc hF =>
    subst hc
    obtain ⟨b, hb, rfl⟩ := hr
    have := (box_fv (hI.has g _ h) (Zc := newZ F H σ Z) (fun _ h => .inl h) hb).drop off
    rw [Nat.zero_add] at this
    exact ⟨b, off, rfl, .inr ⟨g, _, hF, h, hb⟩, this⟩
  | agg h =>
    obtain ⟨arr, e, h2⟩ := hr
    exact ⟨arr, e, AV.ToL.rep hI h h2⟩
  | tup h =>
    obtain ⟨arr, e, h2⟩ := hr
    exact ⟨arr, e, AV.ToL.rep hI h h2⟩
  | fn h =>
    obtain ⟨arr, e, h2⟩ := hr
    exact ⟨arr, e, AV.ToL.rep hI h h2⟩
theorem AV.ToL.rep (hI : Inv C H σ Z w) {bs as : List AV} {vs : List Value} (h : AV.ToL φ F H bs as) (hr : AV.RepL σ Z w bs vs) : AV.RepL (newσ φ σ) (newZ F H σ Z) w as vs := by
  cases h with
  | nil =>
    cases vs with
    | nil => trivial
    | cons => exact hr.elim
  | cons h h' =>
    cases vs with
    | nil => exact hr.elim
    | cons v vs => exact ⟨AV.To.rep hI h hr.1, AV.ToL.rep hI h' hr.2⟩
end
theorem newσ_src {g' g : Nat} (h : whence φ g' = .id g) : newσ φ σ g' = σ g := by
  unfold newσ
  unfold whence at h
  cases e : lk φ g' with
  | none => rw [e] at h; simp at h; subst h; rfl
  | some x => rw [e] at h; simp at h; subst h; rfl
theorem newσ_cut {g' g n : Nat} (h : whence φ g' = .cut g n) : newσ φ σ g' = cutV n (σ g) := by
  unfold newσ
  unfold whence at h
  cases e : lk φ g' with
  | none => rw [e] at h; simp at h
  | some x => rw [e] at h; simp at h; subst h; rfl
theorem newσ_nil {g' : Nat} (h : lk φ g' = some .nil) : newσ φ σ g' = .slice none 0 0 := by simp only [newσ, h]

theorem toH_lk : ∀ {l : Own}, toH φ F H l → ∀ {g' : Nat} {ob : OB}, lk l g' = some ob → OB.To φ F H g' ob
  | [], _, _, _, h => by simp [lk] at h
  | (k, x) :: l, hl, i, a, h => by
    rw [lk_cons] at h
    split at h
    · rename_i e; subst e; obtain rfl := Option.some.inj h; exact hl.1
    · exact toH_lk hl.2 h
theorem toT_lk {t : List (Nat × AV)} : ∀ {l : List (Nat × AV)}, toT φ F H t l → ∀ {i : Nat} {a : AV}, lk l i = some a → ∃ b, lk t i = some b ∧ AV.To φ F H b a
  | [], _, _, _, h => by simp [lk] at h
  | (k, x) :: l, hl, i, a, h => by
    rw [lk_cons] at h
    split at h
    · rename_i e; subst e; obtain rfl := Option.some.inj h; exact hl.1
    · exact toT_lk hl.2 h
theorem lk_key {α : Type} : ∀ {l : List (Nat × α)} {i : Nat} {x : α}, lk l i = some x → ∃ y, (i, y) ∈ l
  | [], _, _, h => by simp [lk] at h
  | (k, y) :: l, i, x, h => by
    rw [lk_cons] at h
    split at h
    · rename_i e; subst e; exact ⟨y, by simp⟩
    · obtain ⟨z, hz⟩ := lk_key h
      exact ⟨z, by simp [hz]⟩
theorem srcs_ok : ∀ {l : Own}, srcsB φ F l = true → (∀ p ∈ l, ∀ g, (whence φ p.1).src = some g → F.contains g = false) ∧
    ∀ (p q : Nat × OB) (g : Nat), p ∈ l → q ∈ l → (whence φ p.1).src = some g → (whence φ q.1).src = some g → p.1 = q.1
  | [], _ => ⟨fun p hp => by simp at hp, fun p q g hp => by simp at hp⟩
  | (g', ob) :: l, h => by
    simp only [srcsB, Bool.and_eq_true] at h
    obtain ⟨h0, h5⟩ := h
    obtain ⟨h1, h2⟩ := srcs_ok h5
    have key : ∀ g, (whence φ g').src = some g → F.contains g = false ∧ ∀ p ∈ l, (whence φ p.1).src = some g → p.1 = g' := fun g hs => by
      rw [hs] at h0
      simp only [Bool.and_eq_true, Bool.not_eq_true', List.all_eq_true, Bool.or_eq_true] at h0
      refine ⟨h0.1, fun p hp hg => ?_⟩
      rcases h0.2 p hp with h3 | h3
      · exact Nat.eq_of_beq_eq_true h3
      · rw [hg] at h3
        simp at h3
    refine ⟨fun p hp g hg => ?_, fun p q g hp hq e1 e2 => ?_⟩
    · rcases List.mem_cons.1 hp with rfl | hp
      · exact (key g hg).1
      · exact h1 p hp g hg
    · rcases List.mem_cons.1 hp with rfl | hp
      · rcases List.mem_cons.1 hq with rfl | hq
        · rfl
        · exact ((key g e1).2 q hq e2).symm
      · rcases List.mem_cons.1 hq with rfl | hq
        · exact (key g e2).2 p hp e1
        · exact h2 p q g hp hq e1 e2
theorem names_ok (h : namesB φ = true) {g' : Nat} (hg : 1000 ≤ g') : lk φ g' = none := by
  cases e : lk φ g' with
  | none => rfl
  | some x =>
    obtain ⟨y, hy⟩ := lk_key e
    have := List.all_eq_true.1 h _ hy
    simp [Nat.blt_eq] at this
    omega
theorem cut_row {g e q N n : Nat} {cs cs' : List AV} {Z' : Nat → Prop} {σ' : Nat → Value} (_hI : Inv C H σ Z w) (h : OB.Rep σ Z w (σ g) (.row e q N cs)) (hn : n ≤ N) (hc : ∀ {vs : List Value}, AV.RepL σ Z w (cs.take (n * q)) vs → AV.RepL σ' Z' w cs' vs) : OB.Rep σ' Z' w (cutV n (σ g)) (.row e q n cs') := by
  obtain ⟨xs, hx, hr⟩ := h
  refine ⟨xs.take (n * q), ⟨?_, ?_⟩, hc (hr.take _)⟩
  · have : n * q ≤ N * q := Nat.mul_le_mul_right q hn
    rw [List.length_take, hx.1]
    omega
  · rcases hx.2 with ⟨rfl, A, hv⟩ | ⟨b, cap, cur, hv, h0, ha, hc1, hc2, hc3, hc4⟩
    · obtain rfl : n = 0 := by omega
      exact .inl ⟨rfl, A, by rw [hv]; rfl⟩
    · refine .inr ⟨b, cap, cur, by rw [hv]; rfl, h0, ha, by omega, hc2, hc3, ?_⟩
      have : n * q ≤ N * q := Nat.mul_le_mul_right q hn
      rw [← hc4, List.take_take, Nat.min_eq_left this]
theorem St.to {s s' : St} (φ : List (Nat × Whence)) (F : List Nat) (hn : namesB φ = true) (hs : srcsB φ F s'.own = true) (ht : toT φ F s.own s.t s'.t) (hh : toH φ F s.own s'.own) : St.Le s s' := by
  rintro n C a w ⟨h1, h2, σ, Z, hI, htm⟩
  obtain ⟨hs1, hs2⟩ := srcs_ok hs
  have hnew : ∀ b, newZ F s.own σ Z b → Z b ∨ ∃ g ob, F.contains g = true ∧ lk s.own g = some ob ∧ blk (σ g) = some b := fun _ h => h
  have hsrc : ∀ {g' : Nat} {ob : OB}, lk s'.own g' = some ob → (newσ φ σ g' = .slice none 0 0) ∨ ∃ g ob0, (whence φ g').src = some g ∧ lk s.own g = some ob0 ∧ F.contains g = false ∧ blk (newσ φ σ g') = blk (σ g) := fun {g' ob} hg => by
    obtain ⟨y, hy⟩ := lk_key hg
    cases toH_lk hh hg with
    | nil h => exact .inl (newσ_nil h)
    | row h h' _ _ => exact .inr ⟨_, _, by rw [h]; rfl, h', hs1 _ hy _ (by rw [h]; rfl), by rw [newσ_src h]⟩
    | cut h h' _ _ _ _ => exact .inr ⟨_, _, by rw [h]; rfl, h', hs1 _ hy _ (by rw [h]; rfl), by rw [newσ_cut h, cutV_blk]⟩
    | box h h' _ => exact .inr ⟨_, _, by rw [h]; rfl, h', hs1 _ hy _ (by rw [h]; rfl), by rw [newσ_src h]⟩
  refine ⟨h1, h2, newσ φ σ, newZ F s.own σ Z, ⟨hI.os, hI.tape, hI.output, hI.size, hI.drawn, hI.frame, fun b hb => ?_, fun b hb => .inl (hI.zold b hb), fun b hb => ?_, fun g' ob hg => ?_, fun g' ob b hg hb => ?_, fun g g' ob ob' b hg hg' hb hb' => ?_, fun g hg => ?_⟩, fun i x hx => ?_⟩
  · rcases hnew b hb with h | ⟨g, ob, _, hg, hb⟩
    · exact hI.zlt b h
    · exact (hI.mine g ob b hg hb).2.2
  · rcases hnew b hb with h | ⟨g, ob, _, hg, hb⟩
    · exact hI.znew b h
    · exact .inr (hI.mine g ob b hg hb).1
  · cases toH_lk hh hg with
    | @nil e q h =>
      rw [newσ_nil h]
      exact ⟨[], ⟨by simp, .inl ⟨rfl, none, rfl⟩⟩, trivial⟩
    | @row g e q n n' cs cs' h h' hn hc =>
      subst hn
      rw [newσ_src h]
      obtain ⟨xs, hx, hr⟩ := hI.has g _ h'
      exact ⟨xs, hx, hc.rep hI hr⟩
    | @cut g e q N n n' cs cs2 cs' h h' hnN hn hcs hc =>
      subst hn hcs
      rw [newσ_cut h]
      exact cut_row hI (hI.has g _ h') hnN fun h => hc.rep hI h
    | @box g t cs cs' h h' hc =>
      rw [newσ_src h]
      obtain ⟨b, arr, e1, e2, hr⟩ := hI.has g _ h'
      exact ⟨b, arr, e1, e2, hc.rep hI hr⟩
  · rcases hsrc hg with h | ⟨g, ob0, h3, h4, h5, h6⟩
    · rw [h] at hb; cases hb
    · rw [h6] at hb
      have hm := hI.mine g ob0 b h4 hb
      refine ⟨hm.1, fun hz => ?_, hm.2.2⟩
      rcases hnew b hz with h | ⟨k, ob, hF, hk, hb'⟩
      · exact hm.2.1 h
      · have := hI.inj g k ob0 ob b h4 hk hb hb'
        subst this
        rw [h5] at hF
        cases hF
  · rcases hsrc hg with h | ⟨k, ob0, h3, h4, h5, h6⟩
    · rw [h] at hb; cases hb
    · rcases hsrc hg' with h | ⟨k', ob0', h3', h4', h5', h6'⟩
      · rw [h] at hb'; cases hb'
      · rw [h6] at hb
        rw [h6'] at hb'
        have := hI.inj k k' _ _ b h4 h4' hb hb'
        subst this
        obtain ⟨y, hy⟩ := lk_key hg
        obtain ⟨y', hy'⟩ := lk_key hg'
        exact hs2 _ _ k hy hy' h3 h3'
  · have := names_ok hn hg
    simp only [newσ, this]
    exact hI.keep g hg
  · obtain ⟨b, h3, h4⟩ := toT_lk ht hx
    exact h4.rep hI (htm i b h3)
end
theorem LEff.callBL {P : Program} {T : Tbl} {t : List (Nat × AV)} {H : Own} {d : Nat} {r : AV} {f : Operand} {args : Array Operand} {ts : Array TypeId} {fid : FuncId} {cs as0 as : List AV} (h1 : evO t f = some (.fn fid cs)) (h2 : evL t args.toList = some as0) (h4 : Fun P fid as r) (h3 : BorL H (as0 ++ cs) as) (h5 : r.scal = true) :
    LEff P T (St.ev ⟨t, H⟩) H d (.call { callee := .value f, args := args, argTypes := ts }) r [] :=
  .callB (evO_ev (st := ⟨t, H⟩) h1) (by rw [evL_ev (st := ⟨t, H⟩) h2]; exact h3) h4 h5
theorem LEff.callBG {P : Program} {T : Tbl} {t : List (Nat × AV)} {H : Own} {d : Nat} {r : AV} {f : Operand} {args : Array Operand} {ts : Array TypeId} {fid : FuncId} {cs as0 as : List AV} (h1 : evG t f = some (.fn fid cs)) (h2 : evGL t args.toList = some as0) (h4 : Fun P fid as r) (h3 : BorL H (as0 ++ cs) as) (h5 : r.scal = true) :
    LEff P T (fun x => (St.ev ⟨t, H⟩ x).strip) H d (.call { callee := .value f, args := args, argTypes := ts }) r [] :=
  .callB (evG_ev (st := ⟨t, H⟩) h1) (by rw [evGL_ev (st := ⟨t, H⟩) h2]; exact h3) h4 h5
theorem refsL_app {g : Nat} : ∀ {as bs : List AV}, AV.refsL g (as ++ bs) = (AV.refsL g as || AV.refsL g bs)
  | [], _ => rfl
  | a :: as, bs => by simp [AV.refsL, refsL_app, Bool.or_assoc]
theorem take_flat {α : Type} {enc : α → List FV} {l : List α} {k : Nat} {x : α} (h : l[k]? = some x) : (l.take (k + 1)).flatMap enc = (l.take k).flatMap enc ++ enc x := by
  have hlt := (List.getElem?_eq_some_iff.1 h).1
  rw [List.take_add_one, h]
  simp
theorem take_len {α : Type} {l : List α} {k : Nat} {x : α} (h : l[k]? = some x) : (l.take (k + 1)).length = (l.take k).length + 1 := by
  have hlt := (List.getElem?_eq_some_iff.1 h).1
  simp
  omega
end Go.Proofs.YtmidechdlbcepaaGreat