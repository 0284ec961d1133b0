import Derived.Test.YtmidechdlbcepaaGreatPack20
set_option linter.unusedSimpArgs false
set_option linter.unusedVariables false
namespace Go.Proofs.YtmidechdlbcepaaGreat
open Go.RowKit
def maskOf (md : Region.Mode) (ops : Array Oper) (acc : List (Nat × Nat)) (i : Nat) : Nat :=
  match ops[i]? with
  | some o => o.after.toList.foldl (fun s e => if Region.binds md e then s ||| 2 ^ e.on ||| (lk acc e.on).getD 0 else s) 0
  | none => 0
def masks (md : Region.Mode) (ops : Array Oper) : List Nat → List (Nat × Nat) → List (Nat × Nat)
  | [], acc => acc
  | i :: l, acc => masks md ops l ((i, maskOf md ops acc i) :: acc)
def fp0 : Fp := ⟨[], [], []⟩
def fpAt : List Fp → Nat → Fp
  | [], _ => fp0
  | f :: _, 0 => f
  | _ :: l, n + 1 => fpAt l n
def pairF (ops : Array Oper) (m a : Nat) (oa o : Oper) (fa fo : Fp) : Bool :=
  (m.testBit a || (indepF ops oa o fa fo && disj fa.n fo.r)) && disj fa.n fo.n && disj fo.n fa.r
def okB (md : Region.Mode) (ops : Array Oper) (F : Nat → Fp) : Bool :=
  let ord := Region.linearise md ops 0
  let ms := masks md ops ord []
  (List.range ops.size).all fun i => match ops[i]? with
    | none => false
    | some o => (o.after.toList.all fun e => !Region.binds md e || (Nat.blt e.on ops.size && Nat.blt (ord.idxOf e.on) (ord.idxOf i))) &&
      (List.range i).all fun a => match ops[a]? with
        | some oa => pairF ops ((lk ms i).getD 0) a oa o (F a) (F i)
        | none => false
def okF (ops : Array Oper) (fps : List Fp) : Bool := okB .any ops (fpAt fps)
def freeF (fps : List Fp) (st : St) : Bool := fps.all fun f => f.n.all fun d => noRefT d st.t && noRefH d st.own

section
variable {md : Region.Mode} {ops : Array Oper}
def Shut (md : Region.Mode) (ops : Array Oper) (listed : Array Bool) : Prop := ∀ j o, ops[j]? = some o → listed.getD j false = true → ∀ e ∈ o.after, Region.binds md e = true → listed.getD e.on false = true
def MaskOk (md : Region.Mode) (ops : Array Oper) (i m : Nat) : Prop := ∀ listed o, Shut md ops listed → ops[i]? = some o → (∀ e ∈ o.after, Region.binds md e = true → listed.getD e.on false = true) → ∀ a, m.testBit a = true → listed.getD a false = true
theorem maskOf_ok (hrng : ∀ (i : Nat) (o : Oper) (e : Edge), ops[i]? = some o → e ∈ o.after → Region.binds md e = true → e.on < ops.size) {acc : List (Nat × Nat)} (hacc : ∀ i m, lk acc i = some m → MaskOk md ops i m) (i : Nat) : MaskOk md ops i (maskOf md ops acc i) := by
  intro listed o hs ho hd a ha
  unfold maskOf at ha
  rw [ho] at ha
  simp only at ha
  have key : ∀ (l : List Edge) (s0 : Nat), (∀ e ∈ l, e ∈ o.after) → (l.foldl (fun s e => if Region.binds md e then s ||| 2 ^ e.on ||| (lk acc e.on).getD 0 else s) s0).testBit a = true → s0.testBit a = true ∨ listed.getD a false = true := by
    intro l
    induction l with
    | nil => intro s0 _ h; exact .inl h
    | cons e l ih =>
      intro s0 hl h
      rw [List.foldl_cons] at h
      rcases ih _ (fun e he => hl e (by simp [he])) h with h1 | h1
      · split at h1
        · rename_i hb
          have hon := hd e (hl e (by simp)) hb
          rw [Nat.testBit_or, Nat.testBit_or, Nat.testBit_two_pow] at h1
          simp only [Bool.or_eq_true, decide_eq_true_eq] at h1
          rcases h1 with (h1 | h1) | h1
          · exact .inl h1
          · subst h1; exact .inr hon
          · cases hm : lk acc e.on with
            | none => rw [hm] at h1; simp at h1
            | some m =>
              rw [hm] at h1
              cases ho' : ops[e.on]? with
              | none =>
                have := hrng i o e ho (hl e (by simp)) hb
                rw [Array.getElem?_eq_getElem this] at ho'
                cases ho'
              | some o' => exact .inr (hacc e.on m hm listed o' hs ho' (fun e' he' hb' => hs e.on o' ho' hon e' he' hb') a h1)
        · exact .inl h1
      · exact .inr h1
  rcases key _ 0 (fun e he => by simpa using he) ha with h | h
  · simp at h
  · exact h
theorem masks_ok (hrng : ∀ (i : Nat) (o : Oper) (e : Edge), ops[i]? = some o → e ∈ o.after → Region.binds md e = true → e.on < ops.size) : ∀ (l : List Nat) (acc : List (Nat × Nat)), (∀ i m, lk acc i = some m → MaskOk md ops i m) → ∀ i m, lk (masks md ops l acc) i = some m → MaskOk md ops i m
  | [], _, h => h
  | j :: l, acc, h => masks_ok hrng l _ fun i m hi => by
    rw [lk_cons] at hi
    split at hi
    · rename_i e
      subst e
      obtain rfl := Option.some.inj hi
      exact maskOf_ok hrng h _
    · exact h i m hi

structure Checked (md : Region.Mode) (ops : Array Oper) (F : Nat → Fp) : Prop where
  rng : ∀ (i : Nat) (o : Oper) (e : Edge), ops[i]? = some o → e ∈ o.after → Region.binds md e = true → e.on < ops.size
  rank : ∃ rk : Nat → Nat, ∀ (i : Nat) (o : Oper) (e : Edge), ops[i]? = some o → e ∈ o.after → Region.binds md e = true → rk e.on < rk i
  pair : ∀ (a i : Nat) (oa o : Oper), a < i → ops[a]? = some oa → ops[i]? = some o → (∀ listed, Shut md ops listed → (∀ e ∈ o.after, Region.binds md e = true → listed.getD e.on false = true) → listed.getD a false = false → indepF ops oa o (F a) (F i) = true ∧ disj (F a).n (F i).r = true) ∧ disj (F a).n (F i).n = true ∧ disj (F i).n (F a).r = true
theorem okB_checked {F : Nat → Fp} (h : okB md ops F = true) : Checked md ops F := by
  unfold okB at h
  simp only [List.all_eq_true, List.mem_range] at h
  have h1 : ∀ i o, ops[i]? = some o → (∀ e ∈ o.after, Region.binds md e = true → e.on < ops.size ∧ (Region.linearise md ops 0).idxOf e.on < (Region.linearise md ops 0).idxOf i) ∧
      ∀ a, a < i → ∀ oa, ops[a]? = some oa → pairF ops ((lk (masks md ops (Region.linearise md ops 0) []) i).getD 0) a oa o (F a) (F i) = true := by
    intro i o ho
    have hi := (Array.getElem?_eq_some_iff.1 ho).1
    have := h i hi
    rw [ho] at this
    simp only [Bool.and_eq_true, List.all_eq_true, Bool.or_eq_true, Bool.not_eq_true', List.mem_range] at this
    refine ⟨fun e he hb => ?_, fun a ha oa hoa => ?_⟩
    · rcases this.1 e (by simpa using he) with h2 | h2
      · rw [hb] at h2; cases h2
      · exact ⟨by simpa [Nat.blt_eq] using h2.1, by simpa [Nat.blt_eq] using h2.2⟩
    · have := this.2 a ha
      rw [hoa] at this
      exact this
  have hrng : ∀ (i : Nat) (o : Oper) (e : Edge), ops[i]? = some o → e ∈ o.after → Region.binds md e = true → e.on < ops.size := fun i o e ho he hb => ((h1 i o ho).1 e he hb).1
  refine ⟨hrng, ⟨fun i => (Region.linearise md ops 0).idxOf i, fun i o e ho he hb => ((h1 i o ho).1 e he hb).2⟩, fun a i oa o ha hoa ho => ?_⟩
  have h2 := (h1 i o ho).2 a ha oa hoa
  simp only [pairF, Bool.and_eq_true, Bool.or_eq_true] at h2
  refine ⟨fun listed hs hd hun => ?_, h2.1.2, h2.2⟩
  rcases h2.1.1 with h3 | h3
  · exfalso
    cases hm : lk (masks md ops (Region.linearise md ops 0) []) i with
    | none => rw [hm] at h3; simp at h3
    | some m =>
      rw [hm] at h3
      have := masks_ok hrng _ [] (fun i m h => by simp [lk] at h) i m hm listed o hs ho hd a h3
      rw [this] at hun
      cases hun
  · exact h3

def Ops (P : Program) (n : Nat) (ops : Array Oper) (F : Nat → Fp) : List Nat → (St → Prop) → St → Prop
  | [], K, st => K st
  | i :: l, K, st => ∃ st', StepS P n ops i (F i) st st' ∧ Ops P n ops F l K st'
section
variable {P : Program} {n : Nat} {F : Nat → Fp}
theorem Ops.eqv {K : St → Prop} (hK : ∀ s s', Eqv s s' → K s → K s') : ∀ (l : List Nat) {s s' : St}, Eqv s s' → Ops P n ops F l K s → Ops P n ops F l K s'
  | [], s, s', he, h => hK s s' he h
  | i :: l, s, s', he, ⟨s1, h1, h2⟩ => ⟨s1, h1.eqv he, h2⟩
theorem Ops.sound {C : Ctx} {Q : Exit → Act → World → Prop} {K : St → Prop} (hQ : ∀ st a w, K st → Rel n C st a w → Q .normal a w) :
    ∀ (l : List Nat) {st : St} {a : Act} {w : World}, Ops P n ops F l K st → Rel n C st a w → wpOps P ops Q l a w
  | [], st, _, _, h, hr => hQ st _ _ h hr
  | i :: l, st, a, w, ⟨st', h1, h2⟩, hr => by
    rw [wpOps_cons]
    exact h1.sem _ _ _ _ _ hr fun _ _ hr' => Ops.sound hQ l h2 hr'
theorem FreshN.step {i : Nat} {fi fp : Fp} {s s1 : St} (h : StepS P n ops i fi s s1) (hF : FreshN fp s) (hd : disj fp.n fi.n = true) (hd' : disj fp.n fi.r = true) : FreshN fp s1 :=
  fun g hg => h.fresh (hF g hg).1 (hF g hg).2 (disj_not hd hg) (disj_not hd' hg)
theorem disj_symm {a b : List Nat} (h : disj a b = true) : disj b a = true := by
  unfold disj
  rw [List.all_eq_true]
  intro x hx
  rw [List.all_eq_true]
  intro y hy
  have hne : x ≠ y := by
    rintro rfl
    exact disj_not h hy hx
  cases e : Nat.beq x y with
  | false => rfl
  | true => exact absurd (Nat.eq_of_beq_eq_true e) hne
theorem Ops.front {K : St → Prop} {i : Nat} {o : Oper} (ho : ops[i]? = some o) {B : List Nat} : ∀ (A : List Nat) {s : St}, (∀ a ∈ A, ∃ oa, ops[a]? = some oa ∧ indepF ops oa o (F a) (F i) = true ∧ disj (F a).n (F i).n = true ∧ disj (F i).n (F a).r = true) → FreshN (F i) s → Ops P n ops F (A ++ i :: B) K s → Ops P n ops F (i :: (A ++ B)) K s
  | [], s, _, _, h => h
  | a :: A, s, hA, hF, ⟨s1, h1, h2⟩ => by
    obtain ⟨oa, hoa, hind, hdst⟩ := hA a (by simp)
    have hF1 : FreshN (F i) s1 := hF.step h1 (disj_symm hdst.1) hdst.2
    obtain ⟨s2, h3, h4⟩ := Ops.front ho A (fun x hx => hA x (by simp [hx])) hF1 h2
    obtain ⟨s1', h5, h6⟩ := h1.swap h3 hoa ho hind hdst.1 hF
    exact ⟨s1', h5, s2, h6, h4⟩

theorem least_of (rk : Nat → Nat) : ∀ (l : List Nat), l ≠ [] → ∃ i ∈ l, ∀ j ∈ l, rk i ≤ rk j
  | [], h => absurd rfl h
  | [a], _ => ⟨a, by simp, by simp⟩
  | a :: b :: l, _ => by
    obtain ⟨i, hi, hm⟩ := least_of rk (b :: l) (by simp)
    by_cases h : rk a ≤ rk i
    · exact ⟨a, by simp, fun j hj => by
        rcases List.mem_cons.1 hj with rfl | hj
        · exact Nat.le_refl _
        · exact Nat.le_trans h (hm j hj)⟩
    · exact ⟨i, by simp only [List.mem_cons]; exact .inr (by simpa using hi), fun j hj => by
        rcases List.mem_cons.1 hj with rfl | hj
        · omega
        · exact hm j hj⟩
theorem Ops.any (hc : Checked md ops F) {C : Ctx} {Q : Exit → Act → World → Prop} {K : St → Prop} (hQ : ∀ st a w, K st → Rel n C st a w → Q .normal a w) :
    ∀ (fuel : Nat) (l : List Nat) (listed : Array Bool) (s : St) (a : Act) (w : World), l.length = fuel → listed.size = ops.size → (∀ j, j ∈ l ↔ j < ops.size ∧ listed.getD j true = false) → l.Pairwise (· < ·) → Shut md ops listed → (∀ j ∈ l, FreshN (F j) s) →
      Ops P n ops F l K s → Rel n C s a w → wpAny P md ops Q fuel listed a w := by
  intro fuel
  induction fuel with
  | zero =>
    intro l listed s a w hl hsz hmem hpw hsh hF h hr
    obtain rfl := List.eq_nil_of_length_eq_zero hl
    have hrd : Region.ready md ops listed = [] := by
      rcases List.eq_nil_or_concat (Region.ready md ops listed) with h' | ⟨x, y, h'⟩
      · exact h'
      · have hy : y ∈ Region.ready md ops listed := by rw [h']; simp
        obtain ⟨h1, o, h2, _⟩ := mem_ready.1 hy
        exact absurd ((hmem y).2 ⟨(Array.getElem?_eq_some_iff.1 h2).1, h1⟩) (by simp)
    exact ⟨hrd, hQ s a w h hr⟩
  | succ fuel ih =>
    intro l listed s a w hl hsz hmem hpw hsh hF h hr
    have hget : ∀ j, j < ops.size → listed.getD j true = listed.getD j false := fun j hj => by simp [Array.getD, hsz, hj]
    refine ⟨fun hrd => ?_, fun i hi => ?_⟩
    · exfalso
      obtain ⟨rk, hrk⟩ := hc.rank
      obtain ⟨i, hil, hmin⟩ := least_of rk l (by rintro rfl; simp at hl)
      obtain ⟨h1, h2⟩ := (hmem i).1 hil
      have : i ∈ Region.ready md ops listed := by
        rw [mem_ready]
        refine ⟨h2, ops[i], Array.getElem?_eq_getElem h1, fun e he hb => ?_⟩
        have hon := hc.rng i _ e (Array.getElem?_eq_getElem h1) he hb
        cases hx : listed.getD e.on false with
        | true => rfl
        | false =>
          have hel : e.on ∈ l := (hmem e.on).2 ⟨hon, by rw [hget _ hon]; exact hx⟩
          have := hmin e.on hel
          have := hrk i _ e (Array.getElem?_eq_getElem h1) he hb
          omega
      rw [hrd] at this
      cases this
    · obtain ⟨hun, o, ho, hall⟩ := mem_ready.1 hi
      have his := (Array.getElem?_eq_some_iff.1 ho).1
      have hil : i ∈ l := (hmem i).2 ⟨his, hun⟩
      obtain ⟨A, B, rfl⟩ := List.append_of_mem hil
      have hpw' := List.pairwise_append.1 hpw
      have hA : ∀ x ∈ A, ∃ ox, ops[x]? = some ox ∧ (indepF ops ox o (F x) (F i) = true ∧ disj (F x).n (F i).r = true) ∧ disj (F x).n (F i).n = true ∧ disj (F i).n (F x).r = true := fun x hx => by
        have hxi : x < i := hpw'.2.2 x hx i (by simp)
        have hxs := ((hmem x).1 (by simp [hx])).1
        obtain ⟨p1, p2⟩ := hc.pair x i ops[x] o hxi (Array.getElem?_eq_getElem hxs) ho
        refine ⟨ops[x], Array.getElem?_eq_getElem hxs, p1 listed hsh hall ?_, p2⟩
        rw [← hget x hxs]
        exact ((hmem x).1 (by simp [hx])).2
      obtain ⟨s1, h1, h2⟩ := Ops.front ho A (fun x hx => by obtain ⟨ox, q1, q2, q3⟩ := hA x hx; exact ⟨ox, q1, q2.1, q3⟩) (hF i hil) h
      refine h1.sem _ _ _ _ _ hr fun a' w' hr' => ?_
      refine ih (A ++ B) (listed.setIfInBounds i true) s1 a' w' (by simp at hl ⊢; omega) (by simpa using hsz) (fun j => ?_) ?_ ?_ ?_ h2 hr'
      · have hm := hmem j
        by_cases hji : j = i
        · subst hji
          have hnot : j ∉ A ++ B := by
            intro hj
            rcases List.mem_append.1 hj with hj | hj
            · exact absurd (hpw'.2.2 j hj j (by simp)) (by omega)
            · have := (List.pairwise_cons.1 hpw'.2.1).1 j hj
              omega
          simp [Array.getD, hsz, his, hnot]
        · rw [getD_set_ne true (Ne.symm hji), ← hm]
          simp [hji]
      · exact hpw.sublist (by simp)
      · intro j oj hoj hj e he hb
        by_cases hji : j = i
        · subst hji
          obtain rfl : o = oj := Option.some.inj (ho.symm.trans hoj)
          exact getD_set_true (hall e he hb)
        · rw [getD_set_ne false (Ne.symm hji)] at hj
          exact getD_set_true (hsh j oj hoj hj e he hb)
      · intro j hj
        have hjl : j ∈ A ++ i :: B := by
          rcases List.mem_append.1 hj with hj | hj
          · simp [hj]
          · simp [hj]
        have hjs := ((hmem j).1 hjl).1
        have hji : j ≠ i := by
          rintro rfl
          rcases List.mem_append.1 hj with hj | hj
          · exact absurd (hpw'.2.2 j hj j (by simp)) (by omega)
          · have := (List.pairwise_cons.1 hpw'.2.1).1 j hj
            omega
        rcases List.mem_append.1 hj with hjA | hjB
        · obtain ⟨oj, q1, q2, q3, q4⟩ := hA j hjA
          exact (hF j hjl).step h1 q3 q2.2
        · have hlt : i < j := (List.pairwise_cons.1 hpw'.2.1).1 j hjB
          obtain ⟨_, q3, q4⟩ := hc.pair i j o ops[j] hlt ho (Array.getElem?_eq_getElem hjs)
          exact (hF j hjl).step h1 (disj_symm q3) q4

theorem Rel.drew {C : Ctx} {st : St} {a : Act} {w : World} (h : Rel n C st a w) : Rel n C st a { w with drawn := w.drawn + 1 } := by
  obtain ⟨h1, h2, σ, Z, hI, ht⟩ := h
  exact ⟨h1, h2, σ, Z, hI.drew, ht.drew⟩
theorem fpAt_mem : ∀ {fps : List Fp} {i : Nat} {g : Nat}, g ∈ (fpAt fps i).n → ∃ f ∈ fps, g ∈ f.n
  | [], _, _, h => by simp [fpAt, fp0] at h
  | f :: _, 0, g, h => ⟨f, by simp, h⟩
  | f :: l, n + 1, g, h => by
    obtain ⟨f', h1, h2⟩ := fpAt_mem (fps := l) (i := n) h
    exact ⟨f', by simp [h1], h2⟩
theorem freeF_fresh {fps : List Fp} {st : St} (h : freeF fps st = true) (i : Nat) : FreshN (fpAt fps i) st := by
  intro g hg
  obtain ⟨f, h1, h2⟩ := fpAt_mem hg
  have := List.all_eq_true.1 (List.all_eq_true.1 h f h1) g h2
  simp only [Bool.and_eq_true] at this
  exact ⟨noT_of this.1, noH_of this.2⟩
theorem WP.drw {id : Nat} {Q : Exit → St → Prop} {st : St} {fps : List Fp} (hm : P.follows .mixedOrders = true) (hck : okF ops fps = true) (hfr : freeF fps st = true) (h : Ops P n ops (fpAt fps) (List.range ops.size) (Q .normal) st) : WP P n (.region id ops true) Q st := by
  intro C a w hr
  have key : ∀ t, wpOps P ops (fun e a' w' => ∃ st', Q e st' ∧ Rel n C st' a' w') (Region.linearise .any ops t) a { w with drawn := w.drawn + 1 } := by
    intro t
    refine wpAny_sound ops.size t _ _ _ ?_
    refine Ops.any (C := C) (okB_checked hck) (fun st' a' w' h1 hr' => ⟨st', h1, hr'⟩) ops.size (List.range ops.size) _ st a _ (by simp) (by simp) (fun j => ?_) List.pairwise_lt_range ?_ (fun j _ => freeF_fresh hfr j) h hr.drew
    · simp [Array.getD]
    · intro j o ho hj
      simp [Array.getD] at hj
  refine wp_region_draw fun t => ?_
  simp only [Region.schedule, hm, Bool.true_or, if_true]
  exact key t
theorem WP.region {id : Nat} {Q : Exit → St → Prop} {st : St} (h : Ops P n ops F (List.range ops.size) (Q .normal) st) : WP P n (.region id ops false) Q st :=
  fun C a w hr => wp_region (Ops.sound (C := C) (fun st' _ _ hq hr' => ⟨st', hq, hr'⟩) _ h hr)
end
end
def Step (P : Program) (T : Tbl) (n : Nat) (ops : Array Oper) (i : Nat) (fp : Fp) (s s' : St) : Prop := T.Ok P → StepS P n ops i fp s s'
def OpsR (P : Program) (T : Tbl) (n : Nat) (ops : Array Oper) : Nat → List Oper → List Fp → (St → Prop) → St → Prop
  | _, [], fps, K, st => fps = [] ∧ K st
  | i, o :: l, fps, K, st => ∃ fp fps', fps = fp :: fps' ∧ (ops[i]? = some o → ∃ st', Step P T n ops i fp st st' ∧ OpsR P T n ops (i + 1) l fps' K st')
theorem fpAt_drop : ∀ (fps : List Fp) (i : Nat) {f : Fp} {l : List Fp}, fps.drop i = f :: l → fpAt fps i = f
  | [], i, f, l, h => by simp at h
  | g :: fps, 0, f, l, h => by simp at h; exact h.1
  | g :: fps, n + 1, f, l, h => fpAt_drop fps n (by simpa using h)
theorem OpsR.ops {P : Program} {T : Tbl} (hT : T.Ok P) {n : Nat} {ops : Array Oper} {K : St → Prop} {F : List Fp} : ∀ (l : List Oper) (fps : List Fp) (i : Nat) {st : St}, ops.toList.drop i = l → F.drop i = fps → OpsR P T n ops i l fps K st → Ops P n ops (fpAt F) (List.range' i l.length) K st
  | [], _, _, _, _, _, h => h.2
  | o :: l, fps, i, st, hl, hF, h => by
    have ho : ops[i]? = some o := by
      have := congrArg (fun x => x[0]?) hl
      simpa [List.getElem?_drop] using this
    obtain ⟨fp, fps', rfl, h⟩ := h
    obtain ⟨st', h1, h2⟩ := h ho
    refine ⟨st', by rw [fpAt_drop F i hF]; exact h1 hT, OpsR.ops hT l fps' (i + 1) ?_ ?_ h2⟩
    · rw [← List.drop_drop, hl]
      rfl
    · rw [← List.drop_drop, hF]
      rfl
structure OpsL (P : Program) (T : Tbl) (n : Nat) (ops : Array Oper) (i : Nat) (l : List Oper) (fps : List Fp) (K : St → Prop) (st : St) : Prop where
  out : OpsR P T n ops i l fps K st
theorem OpsL.all {P : Program} {T : Tbl} (hT : T.Ok P) {n : Nat} {ops : Array Oper} {K : St → Prop} {fps : List Fp} {st : St} (h : OpsL P T n ops 0 ops.toList fps K st) : Ops P n ops (fpAt fps) (List.range ops.size) K st := by
  have := h.out.ops hT _ _ 0 rfl rfl
  rwa [← List.range_eq_range', Array.length_toList] at this
end Go.Proofs.YtmidechdlbcepaaGreat