/- A logic of memory: regions that draw their order. -/
import Derived.Test.YtfgiehfiieecoaaL12
namespace Go.Proofs.Ytfgiehfiieecoaa
open Go.RowKit

def maskOf (md : Region.Mode) (ops : Array Oper) (acc : List (Nat × Nat)) (i : Nat) : Nat :=
  match ops[i]? with
  | some o => o.after.toList.foldl (fun s e => if Region.binds md e then s ||| 2 ^ e.on ||| (lk acc e.on).getD 0 else s) 0
  | none => 0
def masks (md : Region.Mode) (ops : Array Oper) : List Nat → List (Nat × Nat) → List (Nat × Nat)
  | [], acc => acc
  | i :: l, acc => masks md ops l ((i, maskOf md ops acc i) :: acc)
def pairB (ops : Array Oper) (m a : Nat) (oa o : Oper) : Bool :=
  (indepO ops oa o || m.testBit a) && (!(makesOp oa.op || makesOp o.op) || oa.dst != o.dst)
/-- Whatever its order, the region comes to the same. -/
def okB (md : Region.Mode) (ops : Array Oper) : Bool :=
  let ord := Region.linearise md ops 0
  let ms := masks md ops ord []
  (List.range ops.size).all fun i => match ops[i]? with
    | none => false
    | some o => (o.after.toList.all fun e => !Region.binds md e || (Nat.blt e.on ops.size && Nat.blt (ord.idxOf e.on) (ord.idxOf i))) &&
      (List.range i).all fun a => match ops[a]? with
        | some oa => pairB ops ((lk ms i).getD 0) a oa o
        | none => false
def okRegion (ops : Array Oper) : Bool := okB .any ops
def freeB (ops : Array Oper) (st : St) : Bool :=
  ops.toList.all fun o => match o.dst with
    | some d => !makesOp o.op || (noRefT d st.t && noRefH d st.own)
    | none => true

section
variable {md : Region.Mode} {ops : Array Oper}
def Shut (md : Region.Mode) (ops : Array Oper) (listed : Array Bool) : Prop := ∀ j o, ops[j]? = some o → listed.getD j false = true → ∀ e ∈ o.after, Region.binds md e = true → listed.getD e.on false = true
def MaskOk (md : Region.Mode) (ops : Array Oper) (i m : Nat) : Prop := ∀ listed o, Shut md ops listed → ops[i]? = some o → (∀ e ∈ o.after, Region.binds md e = true → listed.getD e.on false = true) → ∀ a, m.testBit a = true → listed.getD a false = true
theorem lt_of_listed {listed : Array Bool} {j : Nat} (h : listed.getD j false = true) : j < listed.size := by
  rcases Nat.lt_or_ge j listed.size with h' | h'
  · exact h'
  · simp [Array.getElem?_eq_none h'] at h
theorem maskOf_ok (hrng : ∀ (i : Nat) (o : Oper) (e : Edge), ops[i]? = some o → e ∈ o.after → Region.binds md e = true → e.on < ops.size) {acc : List (Nat × Nat)} (hacc : ∀ i m, lk acc i = some m → MaskOk md ops i m) (i : Nat) : MaskOk md ops i (maskOf md ops acc i) := by
  intro listed o hs ho hd a ha
  unfold maskOf at ha
  rw [ho] at ha
  simp only at ha
  have key : ∀ (l : List Edge) (s0 : Nat), (∀ e ∈ l, e ∈ o.after) → (l.foldl (fun s e => if Region.binds md e then s ||| 2 ^ e.on ||| (lk acc e.on).getD 0 else s) s0).testBit a = true → s0.testBit a = true ∨ listed.getD a false = true := by
    intro l
    induction l with
    | nil => intro s0 _ h; exact .inl h
    | cons e l ih =>
      intro s0 hl h
      rw [List.foldl_cons] at h
      rcases ih _ (fun e he => hl e (by simp [he])) h with h1 | h1
      · split at h1
        · rename_i hb
          have hon := hd e (hl e (by simp)) hb
          rw [Nat.testBit_or, Nat.testBit_or, Nat.testBit_two_pow] at h1
          simp only [Bool.or_eq_true, decide_eq_true_eq] at h1
          rcases h1 with (h1 | h1) | h1
          · exact .inl h1
          · subst h1; exact .inr hon
          · cases hm : lk acc e.on with
            | none => rw [hm] at h1; simp at h1
            | some m =>
              rw [hm] at h1
              cases ho' : ops[e.on]? with
              | none =>
                have := hrng i o e ho (hl e (by simp)) hb
                rw [Array.getElem?_eq_getElem this] at ho'
                cases ho'
              | some o' => exact .inr (hacc e.on m hm listed o' hs ho' (fun e' he' hb' => hs e.on o' ho' hon e' he' hb') a h1)
        · exact .inl h1
      · exact .inr h1
  rcases key _ 0 (fun e he => by simpa using he) ha with h | h
  · simp at h
  · exact h
theorem masks_ok (hrng : ∀ (i : Nat) (o : Oper) (e : Edge), ops[i]? = some o → e ∈ o.after → Region.binds md e = true → e.on < ops.size) : ∀ (l : List Nat) (acc : List (Nat × Nat)), (∀ i m, lk acc i = some m → MaskOk md ops i m) → ∀ i m, lk (masks md ops l acc) i = some m → MaskOk md ops i m
  | [], _, h => h
  | j :: l, acc, h => masks_ok hrng l _ fun i m hi => by
    rw [lk_cons] at hi
    split at hi
    · rename_i e
      subst e
      obtain rfl := Option.some.inj hi
      exact maskOf_ok hrng h _
    · exact h i m hi

/-- What the check says of two operations, and of an order. -/
structure Checked (md : Region.Mode) (ops : Array Oper) : Prop where
  rng : ∀ (i : Nat) (o : Oper) (e : Edge), ops[i]? = some o → e ∈ o.after → Region.binds md e = true → e.on < ops.size
  rank : ∃ rk : Nat → Nat, ∀ (i : Nat) (o : Oper) (e : Edge), ops[i]? = some o → e ∈ o.after → Region.binds md e = true → rk e.on < rk i
  pair : ∀ (a i : Nat) (oa o : Oper), a < i → ops[a]? = some oa → ops[i]? = some o → (∀ listed, Shut md ops listed → (∀ e ∈ o.after, Region.binds md e = true → listed.getD e.on false = true) → listed.getD a false = false → indepO ops oa o = true) ∧ ((makesOp oa.op = true ∨ makesOp o.op = true) → oa.dst ≠ o.dst)
theorem okB_checked (h : okB md ops = true) : Checked md ops := by
  unfold okB at h
  simp only [List.all_eq_true, List.mem_range] at h
  have h1 : ∀ i o, ops[i]? = some o → (∀ e ∈ o.after, Region.binds md e = true → e.on < ops.size ∧ (Region.linearise md ops 0).idxOf e.on < (Region.linearise md ops 0).idxOf i) ∧
      ∀ a, a < i → ∀ oa, ops[a]? = some oa → pairB ops ((lk (masks md ops (Region.linearise md ops 0) []) i).getD 0) a oa o = true := by
    intro i o ho
    have hi := (Array.getElem?_eq_some_iff.1 ho).1
    have := h i hi
    rw [ho] at this
    simp only [Bool.and_eq_true, List.all_eq_true, Bool.or_eq_true, Bool.not_eq_true', List.mem_range] at this
    refine ⟨fun e he hb => ?_, fun a ha oa hoa => ?_⟩
    · rcases this.1 e (by simpa using he) with h2 | h2
      · rw [hb] at h2; cases h2
      · exact ⟨by simpa [Nat.blt_eq] using h2.1, by simpa [Nat.blt_eq] using h2.2⟩
    · have := this.2 a ha
      rw [hoa] at this
      exact this
  have hrng : ∀ (i : Nat) (o : Oper) (e : Edge), ops[i]? = some o → e ∈ o.after → Region.binds md e = true → e.on < ops.size := fun i o e ho he hb => ((h1 i o ho).1 e he hb).1
  refine ⟨hrng, ⟨fun i => (Region.linearise md ops 0).idxOf i, fun i o e ho he hb => ((h1 i o ho).1 e he hb).2⟩, fun a i oa o ha hoa ho => ?_⟩
  have h2 := (h1 i o ho).2 a ha oa hoa
  simp only [pairB, Bool.and_eq_true, Bool.or_eq_true, Bool.not_eq_true'] at h2
  refine ⟨fun listed hs hd hun => ?_, fun hm => ?_⟩
  · rcases h2.1 with h3 | h3
    · exact h3
    · exfalso
      cases hm : lk (masks md ops (Region.linearise md ops 0) []) i with
      | none => rw [hm] at h3; simp at h3
      | some m =>
        rw [hm] at h3
        have := masks_ok hrng _ [] (fun i m h => by simp [lk] at h) i m hm listed o hs ho hd a h3
        rw [this] at hun
        cases hun
  · rcases h2.2 with h3 | h3
    · simp only [Bool.or_eq_false_iff] at h3
      rcases hm with h | h
      · rw [h3.1] at h; cases h
      · rw [h3.2] at h; cases h
    · simpa using h3

section
variable {P : Program} {T : Tbl} {n : Nat}
theorem Eqv.symm {s s' : St} (h : Eqv s s') : Eqv s' s := ⟨fun i => (h.1 i).symm, fun g => (h.2 g).symm⟩
theorem NoH.cons {g k : Nat} {ob : OB} {H : Own} (h1 : AV.refsL g ob.cells = false) (h2 : NoH g H) : NoH g ((k, ob) :: H) := fun i x hi => by
  rw [lk_cons] at hi
  split at hi
  · obtain rfl := Option.some.inj hi; exact h1
  · exact h2 i x hi
theorem NoT.cons {g k : Nat} {a : AV} {t : List (Nat × AV)} (h1 : a.refs g = false) (h2 : NoT g t) : NoT g ((k, a) :: t) := fun i x hi => by
  rw [lk_cons] at hi
  split at hi
  · obtain rfl := Option.some.inj hi; exact h1
  · exact h2 i x hi
theorem OB.put_cells (ob : OB) (cs : List AV) : (ob.put cs).cells = cs := by cases ob <;> rfl
/-- What is free stays so while others work. -/
theorem Free.step (hT : T.Ok P) {s s1 : St} {i j : Nat} {oi : Oper} (h : OpStep P T n ops i s s1) (hoi : ops[i]? = some oi) (hF : Free ops s j) (hne : ∀ oj, ops[j]? = some oj → makesOp oj.op = true → oi.dst ≠ oj.dst) : Free ops s1 j := by
  intro oj dj hoj hdj hm
  obtain ⟨q1, q2⟩ := hF oj dj hoj hdj hm
  have hne := hne oj hoj hm
  obtain ⟨o, ho, hX⟩ := h.split
  obtain rfl : o = oi := Option.some.inj (ho.symm.trans hoi)
  rcases hX with ⟨d, r, A, hd, hq, hL, hf, rfl⟩ | ⟨p, own', F, hq, hp, hL, hf, rfl⟩
  · have hdd : d ≠ dj := by rintro rfl; exact hne (hd.trans hdj.symm)
    have hA : lk A dj = none := by
      rcases hL.makes hoi with rfl | ⟨ob, rfl, _⟩
      · rfl
      · rw [lk_skip _ _ hdd]; rfl
    obtain ⟨r1, r2⟩ := hL.refs hT q1 q2 hA
    refine ⟨q1.cons r1, fun k ob hk => ?_⟩
    rw [lk_append] at hk
    split at hk
    · rename_i e; obtain rfl := Option.some.inj hk; exact r2 k _ e
    · exact q2 k ob hk
  · cases hL with
    | @sto o' t g off x y ob us cs own' h1 h2 h3 h4 h5 h6 h7 h8 h9 h10 h11 =>
      refine ⟨q1, fun k ob' hk => ?_⟩
      have hk : lk own' k = some ob' := hk
      rw [h11] at hk
      refine NoH.cons ?_ q2 k ob' hk
      rw [OB.put_cells]
      obtain ⟨_, rfl⟩ := setC_eq h10
      have := q2 g ob h6
      exact refsL_append (refsL_append (refsL_take _ this) (cells1_refs h7 (ev_refs q1 y))) (refsL_drop _ this)
    | @app o' d t e q b k m x y cs news H' h1 h2 h3 h4 h5 h6 h7 h8 h9 h10 h11 h12 =>
      have hd : o.dst = some d := hp _ rfl
      have hdd : d ≠ dj := by rintro rfl; exact hne (hd.trans hdj.symm)
      have hcs : AV.refsL dj cs = false := by
        generalize s.ev x = ax at h7
        cases h7 with
        | nil => rfl
        | own hg _ => exact q2 _ (.row e q k cs) hg
      have hnews : AV.refsL dj news = false := by
        generalize s.ev y = ay at h8
        cases h8 with
        | nil => rfl
        | fz _ => exact refsL_fv _
        | own hg _ => exact q2 _ (.row _ q m news) hg
      have hH' : NoH dj H' := by
        generalize s.ev x = ax at h7
        cases h7 with
        | nil => exact q2
        | own hg hr => exact fun i ob hi => q2 i ob (hr.lk i ob hi).2
      refine ⟨q1.cons (by simp only [AV.refs]; cases e' : Nat.beq d dj with
        | false => rfl
        | true => exact absurd (Nat.eq_of_beq_eq_true e') hdd), hH'.cons (refsL_append hcs hnews)⟩

theorem Ops.eqv {K : St → Prop} (hK : ∀ s s', Eqv s s' → K s → K s') : ∀ (l : List Nat) {s s' : St}, Eqv s s' → Ops P T n ops l K s → Ops P T n ops l K s'
  | [], s, s', he, h => hK s s' he h
  | i :: l, s, s', he, ⟨s1, h1, h2⟩ => by
    obtain ⟨s1', h3, h4⟩ := h1.eqv he
    exact ⟨s1', h3, Ops.eqv hK l h4 h2⟩
/-- An operation that may come first is drawn to the front. -/
theorem Ops.front (hT : T.Ok P) {K : St → Prop} (hK : ∀ s s', Eqv s s' → K s → K s') {i : Nat} {o : Oper} (ho : ops[i]? = some o) {B : List Nat} : ∀ (A : List Nat) {s : St}, (∀ a ∈ A, ∃ oa, ops[a]? = some oa ∧ indepO ops oa o = true ∧ (makesOp o.op = true → oa.dst ≠ o.dst)) → Free ops s i → Ops P T n ops (A ++ i :: B) K s → Ops P T n ops (i :: (A ++ B)) K s
  | [], s, _, _, h => h
  | a :: A, s, hA, hF, ⟨s1, h1, h2⟩ => by
    obtain ⟨oa, hoa, hind, hdst⟩ := hA a (by simp)
    have hF1 : Free ops s1 i := Free.step hT h1 hoa hF (fun oj hoj hm => by
      obtain rfl : o = oj := Option.some.inj (ho.symm.trans hoj)
      exact hdst hm)
    obtain ⟨s2, h3, h4⟩ := Ops.front hT hK ho A (fun x hx => hA x (by simp [hx])) hF1 h2
    obtain ⟨s1', s2', h5, h6, h7⟩ := h1.swap hT h3 hoa ho hind hF
    exact ⟨s1', h5, s2', h6, Ops.eqv hK _ h7 h4⟩

theorem least_of (rk : Nat → Nat) : ∀ (l : List Nat), l ≠ [] → ∃ i ∈ l, ∀ j ∈ l, rk i ≤ rk j
  | [], h => absurd rfl h
  | [a], _ => ⟨a, by simp, by simp⟩
  | a :: b :: l, _ => by
    obtain ⟨i, hi, hm⟩ := least_of rk (b :: l) (by simp)
    by_cases h : rk a ≤ rk i
    · exact ⟨a, by simp, fun j hj => by
        rcases List.mem_cons.1 hj with rfl | hj
        · exact Nat.le_refl _
        · exact Nat.le_trans h (hm j hj)⟩
    · exact ⟨i, by simp only [List.mem_cons]; exact .inr (by simpa using hi), fun j hj => by
        rcases List.mem_cons.1 hj with rfl | hj
        · omega
        · exact hm j hj⟩
/-- In every order. -/
theorem Ops.any (hT : T.Ok P) (hc : Checked md ops) {C : Ctx} {Q : Exit → Act → World → Prop} {K : St → Prop} (hK : ∀ s s', Eqv s s' → K s → K s') (hQ : ∀ st a w, K st → Rel n C st a w → Q .normal a w) :
    ∀ (fuel : Nat) (l : List Nat) (listed : Array Bool) (s : St) (a : Act) (w : World), l.length = fuel → listed.size = ops.size → (∀ j, j ∈ l ↔ j < ops.size ∧ listed.getD j true = false) → l.Pairwise (· < ·) → Shut md ops listed → (∀ j ∈ l, Free ops s j) →
      Ops P T n ops l K s → Rel n C s a w → wpAny P md ops Q fuel listed a w := by
  intro fuel
  induction fuel with
  | zero =>
    intro l listed s a w hl hsz hmem hpw hsh hF h hr
    obtain rfl := List.eq_nil_of_length_eq_zero hl
    have hrd : Region.ready md ops listed = [] := by
      rcases List.eq_nil_or_concat (Region.ready md ops listed) with h' | ⟨x, y, h'⟩
      · exact h'
      · have hy : y ∈ Region.ready md ops listed := by rw [h']; simp
        obtain ⟨h1, o, h2, _⟩ := mem_ready.1 hy
        exact absurd ((hmem y).2 ⟨(Array.getElem?_eq_some_iff.1 h2).1, h1⟩) (by simp)
    exact ⟨hrd, hQ s a w h hr⟩
  | succ fuel ih =>
    intro l listed s a w hl hsz hmem hpw hsh hF h hr
    have hget : ∀ j, j < ops.size → listed.getD j true = listed.getD j false := fun j hj => by simp [Array.getD, hsz, hj]
    refine ⟨fun hrd => ?_, fun i hi => ?_⟩
    · exfalso
      obtain ⟨rk, hrk⟩ := hc.rank
      obtain ⟨i, hil, hmin⟩ := least_of rk l (by rintro rfl; simp at hl)
      obtain ⟨h1, h2⟩ := (hmem i).1 hil
      have : i ∈ Region.ready md ops listed := by
        rw [mem_ready]
        refine ⟨h2, ops[i], Array.getElem?_eq_getElem h1, fun e he hb => ?_⟩
        have hon := hc.rng i _ e (Array.getElem?_eq_getElem h1) he hb
        cases hx : listed.getD e.on false with
        | true => rfl
        | false =>
          have hel : e.on ∈ l := (hmem e.on).2 ⟨hon, by rw [hget _ hon]; exact hx⟩
          have := hmin e.on hel
          have := hrk i _ e (Array.getElem?_eq_getElem h1) he hb
          omega
      rw [hrd] at this
      cases this
    · obtain ⟨hun, o, ho, hall⟩ := mem_ready.1 hi
      have his := (Array.getElem?_eq_some_iff.1 ho).1
      have hil : i ∈ l := (hmem i).2 ⟨his, hun⟩
      obtain ⟨A, B, rfl⟩ := List.append_of_mem hil
      have hpw' := List.pairwise_append.1 hpw
      have hA : ∀ x ∈ A, ∃ ox, ops[x]? = some ox ∧ indepO ops ox o = true ∧ (makesOp o.op = true → ox.dst ≠ o.dst) := fun x hx => by
        have hxi : x < i := hpw'.2.2 x hx i (by simp)
        have hxs := ((hmem x).1 (by simp [hx])).1
        obtain ⟨p1, p2⟩ := hc.pair x i ops[x] o hxi (Array.getElem?_eq_getElem hxs) ho
        refine ⟨ops[x], Array.getElem?_eq_getElem hxs, p1 listed hsh hall ?_, fun hm => p2 (.inr hm)⟩
        rw [← hget x hxs]
        exact ((hmem x).1 (by simp [hx])).2
      obtain ⟨s1, h1, h2⟩ := Ops.front hT hK ho A hA (hF i hil) h
      refine h1.sound hT hr fun a' w' hr' => ?_
      refine ih (A ++ B) (listed.setIfInBounds i true) s1 a' w' (by simp at hl ⊢; omega) (by simpa using hsz) (fun j => ?_) ?_ ?_ ?_ h2 hr'
      · have hm := hmem j
        by_cases hji : j = i
        · subst hji
          have hnot : j ∉ A ++ B := by
            intro hj
            rcases List.mem_append.1 hj with hj | hj
            · exact absurd (hpw'.2.2 j hj j (by simp)) (by omega)
            · have := (List.pairwise_cons.1 hpw'.2.1).1 j hj
              omega
          simp [Array.getD, hsz, his, hnot]
        · rw [getD_set_ne true (Ne.symm hji), ← hm]
          simp [hji]
      · exact hpw.sublist (by simp)
      · intro j oj hoj hj e he hb
        by_cases hji : j = i
        · subst hji
          obtain rfl : o = oj := Option.some.inj (ho.symm.trans hoj)
          exact getD_set_true (hall e he hb)
        · rw [getD_set_ne false (Ne.symm hji)] at hj
          exact getD_set_true (hsh j oj hoj hj e he hb)
      · intro j hj
        have hjl : j ∈ A ++ i :: B := by
          rcases List.mem_append.1 hj with hj | hj
          · simp [hj]
          · simp [hj]
        have hjs := ((hmem j).1 hjl).1
        have hji : j ≠ i := by
          rintro rfl
          rcases List.mem_append.1 hj with hj | hj
          · exact absurd (hpw'.2.2 j hj j (by simp)) (by omega)
          · have := (List.pairwise_cons.1 hpw'.2.1).1 j hj
            omega
        refine Free.step hT h1 ho (hF j hjl) (fun oj hoj hm => ?_)
        rcases Nat.lt_or_gt_of_ne hji with hlt | hlt
        · exact ((hc.pair j i oj o hlt hoj ho).2 (.inl hm)).symm
        · exact (hc.pair i j o oj hlt ho hoj).2 (.inr hm)

theorem freeB_free {st : St} (h : freeB ops st = true) (j : Nat) : Free ops st j := by
  intro o d ho hd hm
  have := List.all_eq_true.1 h o (by simpa using Array.mem_of_getElem? ho)
  rw [hd] at this
  simp only [hm, Bool.not_true, Bool.false_or, Bool.and_eq_true] at this
  exact ⟨noT_of this.1, noH_of this.2⟩
theorem Rel.drew {C : Ctx} {st : St} {a : Act} {w : World} (h : Rel n C st a w) : Rel n C st a { w with drawn := w.drawn + 1 } := by
  obtain ⟨h1, h2, σ, Z, hI, ht⟩ := h
  exact ⟨h1, h2, σ, Z, hI.drew, ht.drew⟩
/-- A region that draws its order. -/
theorem WP.drw {id : Nat} {Q : Exit → St → Prop} {st : St} {l : List Nat} (hT : T.Ok P) (hm : P.follows .mixedOrders = true) (hck : okRegion ops = true) (hl : List.range ops.size = l) (hfr : freeB ops st = true) (h : Ops P T n ops l (Q .normal) st) : WP P n (.region id ops true) Q st := by
  subst hl
  intro C a w hr
  let K : St → Prop := fun s => ∃ s0, Eqv s0 s ∧ Q .normal s0
  have hK : ∀ s s', Eqv s s' → K s → K s' := fun s s' he ⟨s0, h1, h2⟩ => ⟨s0, h1.trans he, h2⟩
  have hmono : ∀ (l : List Nat) {s : St}, Ops P T n ops l (Q .normal) s → Ops P T n ops l K s := by
    intro l
    induction l with
    | nil => exact fun {s} h => ⟨s, .refl s, h⟩
    | cons i l ih => exact fun {s} ⟨s1, h1, h2⟩ => ⟨s1, h1, ih h2⟩
  have key : ∀ md, okB md ops = true → ∀ t, wpOps P ops (fun e a' w' => ∃ st', Q e st' ∧ Rel n C st' a' w') (Region.linearise md ops t) a { w with drawn := w.drawn + 1 } := by
    intro md hok t
    refine wpAny_sound ops.size t _ _ _ ?_
    refine Ops.any (C := C) hT (okB_checked hok) hK (fun st' a' w' ⟨s0, h1, h2⟩ hr' => ⟨s0, h2, h1.symm.rel hr'⟩) ops.size (List.range ops.size) _ st a _ (by simp) (by simp) (fun j => ?_) List.pairwise_lt_range ?_ (fun j _ => freeB_free hfr j) (hmono _ h) hr.drew
    · simp [Array.getD]
    · intro j o ho hj
      simp [Array.getD] at hj
  refine wp_region_draw fun t => ?_
  simp only [Region.schedule, hm, Bool.true_or, if_true]
  exact key .any hck t
end
end
end Go.Proofs.Ytfgiehfiieecoaa
