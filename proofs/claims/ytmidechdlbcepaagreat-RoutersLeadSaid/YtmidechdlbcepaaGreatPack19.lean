import Derived.Test.YtmidechdlbcepaaGreatPack18
set_option linter.unusedSimpArgs false
set_option linter.unusedVariables false
namespace Go.Proofs.YtmidechdlbcepaaGreat
open Go.RowKit

def maskOf (md : Region.Mode) (ops : Array Oper) (acc : List (Nat × Nat)) (i : Nat) : Nat :=
  match ops[i]? with
  | some o => o.after.toList.foldl (fun s e => if Region.binds md e then s ||| 2 ^ e.on ||| (lk acc e.on).getD 0 else s) 0
  | none => 0
def masks (md : Region.Mode) (ops : Array Oper) : List Nat → List (Nat × Nat) → List (Nat × Nat)
  | [], acc => acc
  | i :: l, acc => masks md ops l ((i, maskOf md ops acc i) :: acc)
def fp0 : Fp := ⟨[], [], []⟩
def fpAt : List Fp → Nat → Fp
  | [], _ => fp0
  | f :: _, 0 => f
  | _ :: l, n + 1 => fpAt l n
def pairF (ops : Array Oper) (m a : Nat) (oa o : Oper) (fa fo : Fp) : Bool :=
  (m.testBit a || (indepF ops oa o fa fo && disj fa.n fo.r)) && disj fa.n fo.n && disj fo.n fa.r
def okB (md : Region.Mode) (ops : Array Oper) (F : Nat → Fp) : Bool :=
  let ord := Region.linearise md ops 0
  let ms := masks md ops ord []
  (List.range ops.size).all fun i => match ops[i]? with
    | none => false
    | some o => (o.after.toList.all fun e => !Region.binds md e || (Nat.blt e.on ops.size && Nat.blt (ord.idxOf e.on) (ord.idxOf i))) &&
      (List.range i).all fun a => match ops[a]? with
        | some oa => pairF ops ((lk ms i).getD 0) a oa o (F a) (F i)
        | none => false
def okF (ops : Array Oper) (fps : List Fp) : Bool := okB .any ops (fpAt fps)
def freeF (fps : List Fp) (st : St) : Bool := fps.all fun f => f.n.all fun d => noRefT d st.t && noRefH d st.own

section
variable {md : Region.Mode} {ops : Array Oper}
def Shut (md : Region.Mode) (ops : Array Oper) (listed : Array Bool) : Prop := ∀ j o, ops[j]? = some o → listed.getD j false = true → ∀ e ∈ o.after, Region.binds md e = true → listed.getD e.on false = true
def MaskOk (md : Region.Mode) (ops : Array Oper) (i m : Nat) : Prop := ∀ listed o, Shut md ops listed → ops[i]? = some o → (∀ e ∈ o.after, Region.binds md e = true → listed.getD e.on false = true) → ∀ a, m.testBit a = true → listed.getD a false = true
theorem maskOf_ok (hrng : ∀ (i : Nat) (o : Oper) (e : Edge), ops[i]? = some o → e ∈ o.after → Region.binds md e = true → e.on < ops.size) {acc : List (Nat × Nat)} (hacc : ∀ i m, lk acc i = some m → MaskOk md ops i m) (i : Nat) : MaskOk md ops i (maskOf md ops acc i) := by
  intro listed o hs ho hd a ha
  unfold maskOf at ha
  rw [ho] at ha
  simp only at ha
  have key : ∀ (l : List Edge) (s0 : Nat), (∀ e ∈ l, e ∈ o.after) → (l.foldl (fun s e => if Region.binds md e then s ||| 2 ^ e.on ||| (lk acc e.on).getD 0 else s) s0).testBit a = true → s0.testBit a = true ∨ listed.getD a false = true := by
    intro l
    induction l with
    | nil => intro s0 _ h; exact .inl h
    | cons e l ih =>
      intro s0 hl h
      rw [List.foldl_cons] at h
      rcases ih _ (fun e he => hl e (by simp [he])) h with h1 | h1
      · split at h1
        · rename_i hb
          have hon := hd e (hl e (by simp)) hb
          rw [Nat.testBit_or, Nat.testBit_or, Nat.testBit_two_pow] at h1
          simp only [Bool.or_eq_true, decide_eq_true_eq] at h1
          rcases h1 with (h1 | h1) | h1
          · exact .inl h1
          · subst h1; exact .inr hon
          · cases hm : lk acc e.on with
            | none => rw [hm] at h1; simp at h1
            | some m =>
              rw [hm] at h1
              cases ho' : ops[e.on]? with
              | none =>
                have := hrng i o e ho (hl e (by simp)) hb
                rw [Array.getElem?_eq_getElem this] at ho'
                cases ho'
              | some o' => exact .inr (hacc e.on m hm listed o' hs ho' (fun e' he' hb' => hs e.on o' ho' hon e' he' hb') a h1)
        · exact .inl h1
      · exact .inr h1
  rcases key _ 0 (fun e he => by simpa using he) ha with h | h
  · simp at h
  · exact h
theorem masks_ok (hrng : ∀ (i : Nat) (o : Oper) (e : Edge), ops[i]? = some o → e ∈ o.after → Region.binds md e = true → e.on < ops.size) : ∀ (l : List Nat) (acc : List (Nat × Nat)), (∀ i m, lk acc i = some m → MaskOk md ops i m) → ∀ i m, lk (masks md ops l acc) i = some m → MaskOk md ops i m
  | [], _, h => h
  | j :: l, acc, h => masks_ok hrng l _ fun i m hi => by
    rw [lk_cons] at hi
    split at hi
    · rename_i e
      subst e
      obtain rfl := Option.some.inj hi
      exact maskOf_ok hrng h _
    · exact h i m hi

structure Checked (md : Region.Mode) (ops : Array Oper) (F : Nat → Fp) : Prop where
  rng : ∀ (i : Nat) (o : Oper) (e : Edge), ops[i]? = some o → e ∈ o.after → Region.binds md e = true → e.on < ops.size
  rank : ∃ rk : Nat → Nat, ∀ (i : Nat) (o : Oper) (e : Edge), ops[i]? = some o → e ∈ o.after → Region.binds md e = true → rk e.on < rk i
  pair : ∀ (a i : Nat) (oa o : Oper), a < i → ops[a]? = some oa → ops[i]? = some o → (∀ listed, Shut md ops listed → (∀ e ∈ o.after, Region.binds md e = true → listed.getD e.on false = true) → listed.getD a false = false → indepF ops oa o (F a) (F i) = true ∧ disj (F a).n (F i).r = true) ∧ disj (F a).n (F i).n = true ∧ disj (F i).n (F a).r = true
theorem okB_checked {F : Nat → Fp} (h : okB md ops F = true) : Checked md ops F := by
  unfold okB at h
  simp only [List.all_eq_true, List.mem_range] at h
  have h1 : ∀ i o, ops[i]? = some o → (∀ e ∈ o.after, Region.binds md e = true → e.on < ops.size ∧ (Region.linearise md ops 0).idxOf e.on < (Region.linearise md ops 0).idxOf i) ∧
      ∀ a, a < i → ∀ oa, ops[a]? = some oa → pairF ops ((lk (masks md ops (Region.linearise md ops 0) []) i).getD 0) a oa o (F a) (F i) = true := by
    intro i o ho
    have hi := (Array.getElem?_eq_some_iff.1 ho).1
    have := h i hi
    rw [ho] at this
    simp only [Bool.and_eq_true, List.all_eq_true, Bool.or_eq_true, Bool.not_eq_true', List.mem_range] at this
    refine ⟨fun e he hb => ?_, fun a ha oa hoa => ?_⟩
    · rcases this.1 e (by simpa using he) with h2 | h2
      · rw [hb] at h2; cases h2
      · exact ⟨by simpa [Nat.blt_eq] using h2.1, by simpa [Nat.blt_eq] using h2.2⟩
    · have := this.2 a ha
      rw [hoa] at this
      exact this
  have hrng : ∀ (i : Nat) (o : Oper) (e : Edge), ops[i]? = some o → e ∈ o.after → Region.binds md e = true → e.on < ops.size := fun i o e ho he hb => ((h1 i o ho).1 e he hb).1
  refine ⟨hrng, ⟨fun i => (Region.linearise md ops 0).idxOf i, fun i o e ho he hb => ((h1 i o ho).1 e he hb).2⟩, fun a i oa o ha hoa ho => ?_⟩
  have h2 := (h1 i o ho).2 a ha oa hoa
  simp only [pairF, Bool.and_eq_true, Bool.or_eq_true] at h2
  refine ⟨fun listed hs hd hun => ?_, h2.1.2, h2.2⟩
  rcases h2.1.1 with h3 | h3
  · exfalso
    cases hm : lk (masks md ops (Region.linearise md ops 0) []) i with
    | none => rw [hm] at h3; simp at h3
    | some m =>
      rw [hm] at h3
      have := masks_ok hrng _ [] (fun i m h => by simp [lk] at h) i m hm listed o hs ho hd a h3
      rw [this] at hun
      cases hun
  · exact h3

def Ops (P : Program) (n : Nat) (ops : Array Oper) (F : Nat → Fp) : List Nat → (St → Prop) → St → Prop
  | [], K, st => K st
  | i :: l, K, st => ∃ st', StepS P n ops i (F i) st st' ∧ Ops P n ops F l K st'
section
variable {P : Program} {n : Nat} {F : Nat → Fp}
theorem Ops.eqv {K : St → Prop} (hK : ∀ s s', Eqv s s' → K s → K s') : ∀ (l : List Nat) {s s' : St}, Eqv s s' → Ops P n ops F l K s → Ops P n ops F l K s'
  | [], s, s', he, h => hK s s' he h
  | i :: l, s, s', he, ⟨s1, h1, h2⟩ => ⟨s1, h1.eqv he, h2⟩
theorem Ops.sound {C : Ctx} {Q : Exit → Act → World → Prop} {K : St → Prop} (hQ : ∀ st a w, K st → Rel n C st a w → Q .normal a w) :
    ∀ (l : List Nat) {st : St} {a : Act} {w : World}, Ops P n ops F l K st → Rel n C st a w → wpOps P ops Q l a w
  | [], st, _, _, h, hr => hQ st _ _ h hr
  | i :: l, st, a, w, ⟨st', h1, h2⟩, hr => by
    rw [wpOps_cons]
    exact h1.sem _ _ _ _ _ hr fun _ _ hr' => Ops.sound hQ l h2 hr'
theorem FreshN.step {i : Nat} {fi fp : Fp} {s s1 : St} (h : StepS P n ops i fi s s1) (hF : FreshN fp s) (hd : disj fp.n fi.n = true) (hd' : disj fp.n fi.r = true) : FreshN fp s1 :=
  fun g hg => h.fresh (hF g hg).1 (hF g hg).2 (disj_not hd hg) (disj_not hd' hg)
theorem disj_symm {a b : List Nat} (h : disj a b = true) : disj b a = true := by
  unfold disj
  rw [List.all_eq_true]
  intro x hx
  rw [List.all_eq_true]
  intro y hy
  have hne : x ≠ y := by
    rintro rfl
    exact disj_not h hy hx
  cases e : Nat.beq x y with
  | false => rfl
  | true => exact absurd (Nat.eq_of_beq_eq_true e) hne
theorem Ops.front {K : St → Prop} {i : Nat} {o : Oper} (ho : ops[i]? = some o) {B : List Nat} : ∀ (A : List Nat) {s : St}, (∀ a ∈ A, ∃ oa, ops[a]? = some oa ∧ indepF ops oa o (F a) (F i) = true ∧ disj (F a).n (F i).n = true ∧ disj (F i).n (F a).r = true) → FreshN (F i) s → Ops P n ops F (A ++ i :: B) K s → Ops P n ops F (i :: (A ++ B)) K s
  | [], s, _, _, h => h
  | a :: A, s, hA, hF, ⟨s1, h1, h2⟩ => by
    obtain ⟨oa, hoa, hind, hdst⟩ := hA a (by simp)
    have hF1 : FreshN (F i) s1 := hF.step h1 (disj_symm hdst.1) hdst.2
    obtain ⟨s2, h3, h4⟩ := Ops.front ho A (fun x hx => hA x (by simp [hx])) hF1 h2
    obtain ⟨s1', h5, h6⟩ := h1.swap h3 hoa ho hind hdst.1 hF
    exact ⟨s1', h5, s2, h6, h4⟩

theorem least_of (rk : Nat → Nat) : ∀ (l : List Nat), l ≠ [] → ∃ i ∈ l, ∀ j ∈ l, rk i ≤ rk j
  | [], h => absurd rfl h
  | [a], _ => ⟨a, by simp, by simp⟩
  | a :: b :: l, _ => by
    obtain ⟨i, hi, hm⟩ := least_of rk (b :: l) (by simp)
    by_cases h : rk a ≤ rk i
    · exact ⟨a, by simp, fun j hj => by
        rcases List.mem_cons.1 hj with rfl | hj
        · exact Nat.le_refl _
        · exact Nat.le_trans h (hm j hj)⟩
    · exact ⟨i, by simp only [List.mem_cons]; exact .inr (by simpa using hi), fun j hj => by
        rcases List.mem_cons.1 hj with rfl | hj
        · omega
        · exact hm j hj⟩
theorem Ops.any (hc : Checked md ops F) {C : Ctx} {Q : Exit → Act → World → Prop} {K : St → Prop} (hQ : ∀ st a w, K st → Rel n C st a w → Q .normal a w) :
    ∀ (fuel : Nat) (l : List Nat) (listed : Array Bool) (s : St) (a : Act) (w : World), l.length = fuel → listed.size = ops.size → (∀ j, j ∈ l ↔ j < ops.size ∧ listed.getD j true = false) → l.Pairwise (· < ·) → Shut md ops listed → (∀ j ∈ l, FreshN (F j) s) →
      Ops P n ops F l K s → Rel n C s a w → wpAny P md ops Q fuel listed a w := by
  intro fuel
  induction fuel with
  | zero =>
    intro l listed s a w hl hsz hmem hpw hsh hF h hr
    obtain rfl := List.eq_nil_of_length_eq_zero hl
    have hrd : Region.ready md ops listed = [] := by
      rcases List.eq_nil_or_concat (Region.ready md ops listed) with h' | ⟨x, y, h'⟩
      · exact h'
      · have hy : y ∈ Region.ready md ops listed := by rw [h']; simp
        obtain ⟨h1, o, h2, _⟩ := mem_ready.1 hy
        exact absurd ((hmem y).2 ⟨(Array.getElem?_eq_some_iff.1 h2).1, h1⟩) (by simp)
    exact ⟨hrd, hQ s a w h hr⟩
  | succ fuel ih =>
    intro l listed s a w hl hsz hmem hpw hsh hF h hr
    have hget : ∀ j, j < ops.size → listed.getD j true = listed.getD j false := fun j hj => by simp [Array.getD, hsz, hj]
    refine ⟨fun hrd => ?_, fun i hi => ?_⟩
    · exfalso
      obtain ⟨rk, hrk⟩ := hc.rank
      obtain ⟨i, hil, hmin⟩ := least_of rk l (by rintro rfl; simp at hl)
      obtain ⟨h1, h2⟩ := (hmem i).1 hil
      have : i ∈ Region.ready md ops listed := by
        rw [mem_ready]
        refine ⟨h2, ops[i], Array.getElem?_eq_getElem h1, fun e he hb => ?_⟩
        have hon := hc.rng i _ e (Array.getElem?_eq_getElem h1) he hb
        cases hx : listed.getD e.on false with
        | true => rfl
        | false =>
          have hel : e.on ∈ l := (hmem e.on).2 ⟨hon, by rw [hget _ hon]; exact hx⟩
          have := hmin e.on hel
          have := hrk i _ e (Array.getElem?_eq_getElem h1) he hb
          omega
      rw [hrd] at this
      cases this
    · obtain ⟨hun, o, ho, hall⟩ := mem_ready.1 hi
      have his := (Array.getElem?_eq_some_iff.1 ho).1
      have hil : i ∈ l := (hmem i).2 ⟨his, hun⟩
      obtain ⟨A, B, rfl⟩ := List.append_of_mem hil
      have hpw' := List.pairwise_append.1 hpw
      have hA : ∀ x ∈ A, ∃ ox, ops[x]? = some ox ∧ (indepF ops ox o (F x) (F i) = true ∧ disj (F x).n (F i).r = true) ∧ disj (F x).n (F i).n = true ∧ disj (F i).n (F x).r = true := fun x hx => by
        have hxi : x < i := hpw'.2.2 x hx i (by simp)
        have hxs := ((hmem x).1 (by simp [hx])).1
        obtain ⟨p1, p2⟩ := hc.pair x i ops[x] o hxi (Array.getElem?_eq_getElem hxs) ho
        refine ⟨ops[x], Array.getElem?_eq_getElem hxs, p1 listed hsh hall ?_, p2⟩
        rw [← hget x hxs]
        exact ((hmem x).1 (by simp [hx])).2
      obtain ⟨s1, h1, h2⟩ := Ops.front ho A (fun x hx => by obtain ⟨ox, q1, q2, q3⟩ := hA x hx; exact ⟨ox, q1, q2.1, q3⟩) (hF i hil) h
      refine h1.sem _ _ _ _ _ hr fun a' w' hr' => ?_
      refine ih (A ++ B) (listed.setIfInBounds i true) s1 a' w' (by simp at hl ⊢; omega) (by simpa using hsz) (fun j => ?_) ?_ ?_ ?_ h2 hr'
      · have hm := hmem j
        by_cases hji : j = i
        · subst hji
          have hnot : j ∉ A ++ B := by
            intro hj
            rcases List.mem_append.1 hj with hj | hj
            · exact absurd (hpw'.2.2 j hj j (by simp)) (by omega)
            · have := (List.pairwise_cons.1 hpw'.2.1).1 j hj
              omega
          simp [Array.getD, hsz, his, hnot]
        · rw [getD_set_ne true (Ne.symm hji), ← hm]
          simp [hji]
      · exact hpw.sublist (by simp)
      · intro j oj hoj hj e he hb
        by_cases hji : j = i
        · subst hji
          obtain rfl : o = oj := Option.some.inj (ho.symm.trans hoj)
          exact getD_set_true (hall e he hb)
        · rw [getD_set_ne false (Ne.symm hji)] at hj
          exact getD_set_true (hsh j oj hoj hj e he hb)
      · intro j hj
        have hjl : j ∈ A ++ i :: B := by
          rcases List.mem_append.1 hj with hj | hj
          · simp [hj]
          · simp [hj]
        have hjs := ((hmem j).1 hjl).1
        have hji : j ≠ i := by
          rintro rfl
          rcases List.mem_append.1 hj with hj | hj
          · exact absurd (hpw'.2.2 j hj j (by simp)) (by omega)
          · have := (List.pairwise_cons.1 hpw'.2.1).1 j hj
            omega
        rcases List.mem_append.1 hj with hjA | hjB
        · obtain ⟨oj, q1, q2, q3, q4⟩ := hA j hjA
          exact (hF j hjl).step h1 q3 q2.2
        · have hlt : i < j := (List.pairwise_cons.1 hpw'.2.1).1 j hjB
          obtain ⟨_, q3, q4⟩ := hc.pair i j o ops[j] hlt ho (Array.getElem?_eq_getElem hjs)
          exact (hF j hjl).step h1 (disj_symm q3) q4

theorem Rel.drew {C : Ctx} {st : St} {a : Act} {w : World} (h : Rel n C st a w) : Rel n C st a { w with drawn := w.drawn + 1 } := by
  obtain ⟨h1, h2, σ, Z, hI, ht⟩ := h
  exact ⟨h1, h2, σ, Z, hI.drew, ht.drew⟩
theorem fpAt_mem : ∀ {fps : List Fp} {i : Nat} {g : Nat}, g ∈ (fpAt fps i).n → ∃ f ∈ fps, g ∈ f.n
  | [], _, _, h => by simp [fpAt, fp0] at h
  | f :: _, 0, g, h => ⟨f, by simp, h⟩
  | f :: l, n + 1, g, h => by
    obtain ⟨f', h1, h2⟩ := fpAt_mem (fps := l) (i := n) h
    exact ⟨f', by simp [h1], h2⟩
theorem freeF_fresh {fps : List Fp} {st : St} (h : freeF fps st = true) (i : Nat) : FreshN (fpAt fps i) st := by
  intro g hg
  obtain ⟨f, h1, h2⟩ := fpAt_mem hg
  have := List.all_eq_true.1 (List.all_eq_true.1 h f h1) g h2
  simp only [Bool.and_eq_true] at this
  exact ⟨noT_of this.1, noH_of this.2⟩
theorem WP.drw {id : Nat} {Q : Exit → St → Prop} {st : St} {fps : List Fp} (hm : P.follows .mixedOrders = true) (hck : okF ops fps = true) (hfr : freeF fps st = true) (h : Ops P n ops (fpAt fps) (List.range ops.size) (Q .normal) st) : WP P n (.region id ops true) Q st := by
  intro C a w hr
  have key : ∀ t, wpOps P ops (fun e a' w' => ∃ st', Q e st' ∧ Rel n C st' a' w') (Region.linearise .any ops t) a { w with drawn := w.drawn + 1 } := by
    intro t
    refine wpAny_sound ops.size t _ _ _ ?_
    refine Ops.any (C := C) (okB_checked hck) (fun st' a' w' h1 hr' => ⟨st', h1, hr'⟩) ops.size (List.range ops.size) _ st a _ (by simp) (by simp) (fun j => ?_) List.pairwise_lt_range ?_ (fun j _ => freeF_fresh hfr j) h hr.drew
    · simp [Array.getD]
    · intro j o ho hj
      simp [Array.getD] at hj
  refine wp_region_draw fun t => ?_
  simp only [Region.schedule, hm, Bool.true_or, if_true]
  exact key t
theorem WP.region {id : Nat} {Q : Exit → St → Prop} {st : St} (h : Ops P n ops F (List.range ops.size) (Q .normal) st) : WP P n (.region id ops false) Q st :=
  fun C a w hr => wp_region (Ops.sound (C := C) (fun st' _ _ hq hr' => ⟨st', hq, hr'⟩) _ h hr)
end
end
def Step (P : Program) (T : Tbl) (n : Nat) (ops : Array Oper) (i : Nat) (fp : Fp) (s s' : St) : Prop := T.Ok P → StepS P n ops i fp s s'
def OpsR (P : Program) (T : Tbl) (n : Nat) (ops : Array Oper) : Nat → List Oper → List Fp → (St → Prop) → St → Prop
  | _, [], fps, K, st => fps = [] ∧ K st
  | i, o :: l, fps, K, st => ∃ fp fps', fps = fp :: fps' ∧ (ops[i]? = some o → ∃ st', Step P T n ops i fp st st' ∧ OpsR P T n ops (i + 1) l fps' K st')
theorem fpAt_drop : ∀ (fps : List Fp) (i : Nat) {f : Fp} {l : List Fp}, fps.drop i = f :: l → fpAt fps i = f
  | [], i, f, l, h => by simp at h
  | g :: fps, 0, f, l, h => by simp at h; exact h.1
  | g :: fps, n + 1, f, l, h => fpAt_drop fps n (by simpa using h)
theorem OpsR.ops {P : Program} {T : Tbl} (hT : T.Ok P) {n : Nat} {ops : Array Oper} {K : St → Prop} {F : List Fp} : ∀ (l : List Oper) (fps : List Fp) (i : Nat) {st : St}, ops.toList.drop i = l → F.drop i = fps → OpsR P T n ops i l fps K st → Ops P n ops (fpAt F) (List.range' i l.length) K st
  | [], _, _, _, _, _, h => h.2
  | o :: l, fps, i, st, hl, hF, h => by
    have ho : ops[i]? = some o := by
      have := congrArg (fun x => x[0]?) hl
      simpa [List.getElem?_drop] using this
    obtain ⟨fp, fps', rfl, h⟩ := h
    obtain ⟨st', h1, h2⟩ := h ho
    refine ⟨st', by rw [fpAt_drop F i hF]; exact h1 hT, OpsR.ops hT l fps' (i + 1) ?_ ?_ h2⟩
    · rw [← List.drop_drop, hl]
      rfl
    · rw [← List.drop_drop, hF]
      rfl
structure OpsL (P : Program) (T : Tbl) (n : Nat) (ops : Array Oper) (i : Nat) (l : List Oper) (fps : List Fp) (K : St → Prop) (st : St) : Prop where
  out : OpsR P T n ops i l fps K st
theorem OpsL.all {P : Program} {T : Tbl} (hT : T.Ok P) {n : Nat} {ops : Array Oper} {K : St → Prop} {fps : List Fp} {st : St} (h : OpsL P T n ops 0 ops.toList fps K st) : Ops P n ops (fpAt fps) (List.range ops.size) K st := by
  have := h.out.ops hT _ _ 0 rfl rfl
  rwa [← List.range_eq_range', Array.length_toList] at this
end Go.Proofs.YtmidechdlbcepaaGreat

namespace Go.Proofs.YtmidechdlbcepaaGreat
open Go.RowKit

def slOf {α : Type} (enc : α → List FV) (l : List α) : FV := .sl (l.flatMap enc) l.length
theorem flatMap_len {α : Type} {enc : α → List FV} {s : Nat} (hs : ∀ x, (enc x).length = s) : ∀ (l : List α), (l.flatMap enc).length = l.length * s
  | [] => by simp
  | x :: l => by rw [List.flatMap_cons, List.length_append, hs, flatMap_len hs l, List.length_cons, Nat.add_mul, Nat.one_mul, Nat.add_comm]
theorem flatMap_at {α : Type} {enc : α → List FV} {s : Nat} (hs : ∀ x, (enc x).length = s) : ∀ {l : List α} {i : Nat} {x : α}, l[i]? = some x → ((l.flatMap enc).drop (i * s)).take s = enc x
  | [], _, _, h => by simp at h
  | y :: l, 0, x, h => by
    obtain rfl := Option.some.inj h
    rw [Nat.zero_mul, List.drop_zero, List.flatMap_cons, ← hs y, List.take_left]
  | y :: l, i + 1, x, h => by
    have h' : l[i]? = some x := by simpa using h
    rw [List.flatMap_cons, Nat.add_mul, Nat.one_mul, Nat.add_comm, ← List.drop_drop, ← hs y, List.drop_left, hs y]
    exact flatMap_at hs h'

def evO (t : List (Nat × AV)) : Operand → Option AV
  | .tmp i => lk t i
  | .const (.int k n) => some (.fv (.int k n))
  | .const (.bool b) => some (.fv (.bool b))
  | .const (.slice none 0 0) => some .nil
  | .const (.string s) => match Nat.ble s.size 1000 with
    | true => some (.fv (.str s))
    | false => none
  | .func f => some (.fn f [])
  | _ => none
theorem evO_ev {st : St} {x : Operand} {r : AV} (h : evO st.t x = some r) : st.ev x = r := by
  unfold evO at h
  split at h
  · simp [St.ev, h]
  · obtain rfl := Option.some.inj h; rfl
  · obtain rfl := Option.some.inj h; rfl
  · obtain rfl := Option.some.inj h; rfl
  · split at h
    · rename_i e; obtain rfl := Option.some.inj h; simp only [St.ev, liftV, e]
    · cases h
  · obtain rfl := Option.some.inj h; rfl
  · cases h
def evL (t : List (Nat × AV)) : List Operand → Option (List AV)
  | [] => some []
  | x :: l => match evO t x with
    | some r => match evL t l with
      | some rs => some (r :: rs)
      | none => none
    | none => none
theorem evL_ev {st : St} : ∀ {l : List Operand} {rs : List AV}, evL st.t l = some rs → l.map st.ev = rs
  | [], rs, h => by obtain rfl := Option.some.inj h; rfl
  | x :: l, rs, h => by
    simp only [evL] at h
    split at h
    · rename_i r hr
      split at h
      · rename_i rs' hrs
        obtain rfl := Option.some.inj h
        simp [evO_ev hr, evL_ev hrs]
      · cases h
    · cases h

def evG (t : List (Nat × AV)) (x : Operand) : Option AV :=
  match evO t x with
  | some (.whn _ a) => some a
  | some .any => some .any
  | some .bit => some .bit
  | some (.fv f) => some (.fv f)
  | some .nil => some .nil
  | some (.fptr cs) => some (.fptr cs)
  | some (.optr g o) => some (.optr g o)
  | some (.osl g) => some (.osl g)
  | some (.osb g lo n s) => some (.osb g lo n s)
  | some (.fn f cs) => some (.fn f cs)
  | some (.agg cs) => some (.agg cs)
  | some (.tup cs) => some (.tup cs)
  | none => none
theorem evG_ev {st : St} {x : Operand} {r : AV} (h : evG st.t x = some r) : (st.ev x).strip = r := by
  unfold evG at h
  split at h <;> first
    | (rename_i e; rw [evO_ev e]; obtain rfl := Option.some.inj h; rfl)
    | cases h
def evGL (t : List (Nat × AV)) : List Operand → Option (List AV)
  | [] => some []
  | x :: l => match evG t x with
    | some r => match evGL t l with
      | some rs => some (r :: rs)
      | none => none
    | none => none
theorem evGL_ev {st : St} : ∀ {l : List Operand} {rs : List AV}, evGL st.t l = some rs → l.map (fun x => (st.ev x).strip) = rs
  | [], rs, h => by obtain rfl := Option.some.inj h; rfl
  | x :: l, rs, h => by
    simp only [evGL] at h
    split at h
    · rename_i r hr
      split at h
      · rename_i rs' hrs
        obtain rfl := Option.some.inj h
        simp [evG_ev hr, evGL_ev hrs]
      · cases h
    · cases h
def gokAll (c : Prop) (st : St) : List Operand → Prop
  | [] => True
  | x :: l => gok c (st.ev x) ∧ gokAll c st l
theorem gokAll_mem {c : Prop} {st : St} : ∀ {l : List Operand}, gokAll c st l → ∀ x ∈ l, gok c (st.ev x)
  | [], _, x, hx => by cases hx
  | y :: l, h, x, hx => by
    rcases List.mem_cons.1 hx with rfl | hx
    · exact h.1
    · exact gokAll_mem h.2 x hx

section
variable {P : Program} {T : Tbl} {ρ : Operand → AV} {H : Own} {d : Nat} {st : St} {r : AV}
theorem Eff.mvG {x : Operand} (h : evG st.t x = some r) : Eff T (fun x => (st.ev x).strip) H d (.move x) r [] := by
  have := Eff.move (T := T) (ρ := fun x => (st.ev x).strip) (H := H) (d := d) (x := x)
  simp only [evG_ev h] at this
  exact this
theorem Eff.mv {x : Operand} (h : evO st.t x = some r) : Eff T st.ev H d (.move x) r [] := by rw [← evO_ev h]; exact .move
theorem Eff.asg {x : Operand} (h : evO st.t x = some r) : Eff T st.ev H d (.assign x) r [] := by rw [← evO_ev h]; exact .assign
theorem I64.wrap {n : Int} (h1 : -9223372036854775808 ≤ n) (h2 : n ≤ 9223372036854775807) : IntKind.i64.wrap n = n := IntWalk.i64_in n ⟨h1, h2⟩
theorem Eff.add64 {t u : Nat} {x y : Operand} {a b : Int} (h1 : ρ x = .fv (.int .i64 a)) (h2 : ρ y = .fv (.int .i64 b)) (h3 : -9223372036854775808 ≤ a + b) (h4 : a + b ≤ 9223372036854775807) : Eff T ρ H d (.binOp .add t x y u) (.fv (.int .i64 (a + b))) [] := by
  have := Eff.bin (T := T) (H := H) (d := d) (op := .add) (t := t) (u := u) h1 h2 rfl
  rwa [I64.wrap h3 h4] at this
theorem Eff.sub64 {t u : Nat} {x y : Operand} {a b : Int} (h1 : ρ x = .fv (.int .i64 a)) (h2 : ρ y = .fv (.int .i64 b)) (h3 : -9223372036854775808 ≤ a - b) (h4 : a - b ≤ 9223372036854775807) : Eff T ρ H d (.binOp .sub t x y u) (.fv (.int .i64 (a - b))) [] := by
  have := Eff.bin (T := T) (H := H) (d := d) (op := .sub) (t := t) (u := u) h1 h2 rfl
  rwa [I64.wrap h3 h4] at this
theorem Eff.mul64 {t u : Nat} {x y : Operand} {a b : Int} (h1 : ρ x = .fv (.int .i64 a)) (h2 : ρ y = .fv (.int .i64 b)) (h3 : -9223372036854775808 ≤ a * b) (h4 : a * b ≤ 9223372036854775807) : Eff T ρ H d (.binOp .mul t x y u) (.fv (.int .i64 (a * b))) [] := by
  have := Eff.bin (T := T) (H := H) (d := d) (op := .mul) (t := t) (u := u) h1 h2 rfl
  rwa [I64.wrap h3 h4] at this
theorem Eff.quo64 {t u : Nat} {x y : Operand} {a b : Int} (h1 : ρ x = .fv (.int .i64 a)) (h2 : ρ y = .fv (.int .i64 b)) (h3 : 0 ≤ a) (h4 : a ≤ 9223372036854775807) (h5 : 0 < b) : Eff T ρ H d (.binOp .quo t x y u) (.fv (.int .i64 (a / b))) [] := by
  have := Eff.quo (T := T) (H := H) (d := d) (t := t) (u := u) h1 h2 (by omega)
  rw [Int.tdiv_eq_ediv_of_nonneg h3] at this
  have h6 : 0 ≤ a / b := Int.ediv_nonneg h3 (by omega)
  have h7 : a / b ≤ a := Int.ediv_le_self b h3
  rwa [I64.wrap (by omega) (by omega)] at this
theorem Eff.rem64 {t u : Nat} {x y : Operand} {a b : Int} (h1 : ρ x = .fv (.int .i64 a)) (h2 : ρ y = .fv (.int .i64 b)) (h3 : 0 ≤ a) (h5 : 0 < b) : Eff T ρ H d (.binOp .rem t x y u) (.fv (.int .i64 (a % b))) [] := by
  have := Eff.rem (T := T) (H := H) (d := d) (t := t) (u := u) h1 h2 (by omega)
  rwa [Int.tmod_eq_emod_of_nonneg h3] at this
theorem Eff.idxS {α : Type} {enc : α → List FV} {t : Nat} {x y : Operand} {l : List α} {e s b : Nat} {k : IntKind} {i : Nat} {u : α} (h1 : ρ x = .fv (slOf enc l)) (h2 : ρ y = .fv (.int k i)) (h3 : lk T.sli t = some (e, s, b)) (hs : ∀ x, (enc x).length = s) (hu : l[i]? = some u) :
    Eff T ρ H d (.indexAddr t x y) (.fptr (enc u)) [] := by
  have hlt := (List.getElem?_eq_some_iff.1 hu).1
  have := Eff.idxF (T := T) (H := H) (d := d) h1 h2 h3 (by omega) (by omega) (flatMap_len hs l)
  rw [Int.toNat_natCast, flatMap_at hs hu] at this
  exact this
end

mutual
def AV.names : AV → List Nat
  | .optr g _ => [g]
  | .osl g => [g]
  | .osb g _ _ _ => [g]
  | .fn _ cs => AV.namesL cs
  | .agg cs => AV.namesL cs
  | .tup cs => AV.namesL cs
  | .whn _ a => a.names
  | _ => []
def AV.namesL : List AV → List Nat
  | [] => []
  | a :: as => a.names ++ AV.namesL as
end
mutual
theorem AV.names_refs {g : Nat} : ∀ {a : AV}, a.refs g = true → g ∈ a.names
  | .optr h _, e => by simp only [AV.refs] at e; simp [AV.names, Nat.eq_of_beq_eq_true e]
  | .osl h, e => by simp only [AV.refs] at e; simp [AV.names, Nat.eq_of_beq_eq_true e]
  | .osb h _ _ _, e => by simp only [AV.refs] at e; simp [AV.names, Nat.eq_of_beq_eq_true e]
  | .fn _ cs, e => AV.namesL_refs (as := cs) (by simpa [AV.refs] using e)
  | .agg cs, e => AV.namesL_refs (as := cs) (by simpa [AV.refs] using e)
  | .tup cs, e => AV.namesL_refs (as := cs) (by simpa [AV.refs] using e)
  | .whn _ a, e => AV.names_refs (a := a) (by simpa [AV.refs] using e)
  | .any, e => by cases e
  | .bit, e => by cases e
  | .fv _, e => by cases e
  | .nil, e => by cases e
  | .fptr _, e => by cases e
theorem AV.namesL_refs {g : Nat} : ∀ {as : List AV}, AV.refsL g as = true → g ∈ AV.namesL as
  | [], e => by cases e
  | a :: as, e => by
    simp only [AV.refsL, Bool.or_eq_true] at e
    simp only [AV.namesL, List.mem_append]
    exact e.imp AV.names_refs AV.namesL_refs
end
def xN (t : List (Nat × AV)) (x : Operand) : List Nat := match evO t x with
  | some a => a.names
  | none => []
def opN (t : List (Nat × AV)) (op : Op) : List Nat := match pureOp op with
  | true => []
  | false => op.operands.toList.flatMap (xN t)
theorem xN_refs {st : St} {x : Operand} {g : Nat} (h : (st.ev x).refs g = true) : g ∈ xN st.t x := by
  unfold xN
  cases e : evO st.t x with
  | some a => rw [evO_ev e] at h; exact AV.names_refs h
  | none =>
    exfalso
    cases x with
    | tmp t =>
      have e : lk st.t t = none := e
      simp only [St.ev, e] at h
      cases h
    | const v => rw [show st.ev (.const v) = liftV v from rfl, liftV_refs] at h; cases h
    | func f => cases e
    | global q => cases h
theorem opN_refs {st : St} {op : Op} {g : Nat} (h : ∃ x ∈ op.operands, (st.ev x).refs g = true) : pureOp op = true ∨ g ∈ opN st.t op := by
  unfold opN
  cases e : pureOp op with
  | true => exact .inl rfl
  | false =>
    obtain ⟨x, hx, hr⟩ := h
    exact .inr (List.mem_flatMap.2 ⟨x, by simpa using hx, xN_refs hr⟩)
def baseN : AV → List Nat
  | .osl g => [g]
  | _ => []
def only (R : List Nat) : Own → Own
  | [] => []
  | (k, x) :: l => match R.contains k with
    | true => (k, x) :: only R l
    | false => only R l
theorem lk_only {R : List Nat} {g : Nat} : ∀ (H : Own), lk (only R H) g = if g ∈ R then lk H g else none
  | [] => by simp [only, lk]
  | (k, x) :: l => by
    simp only [only]
    cases e : R.contains k with
    | true =>
      simp only [lk_cons, lk_only l]
      split
      · rename_i e'; subst e'; simp at e; simp [e]
      · rfl
    | false =>
      simp only [lk_cons, lk_only l]
      split
      · split
        · rename_i e'; subst e'; simp at e; rename_i h; exact absurd h e
        · rfl
      · rfl
theorem lk_mapSome {g : Nat} : ∀ (A : Own), lk (A.map fun p => (p.1, some p.2)) g = (lk A g).map some
  | [] => rfl
  | (k, x) :: l => by
    simp only [List.map_cons, lk_cons, lk_mapSome l]
    split <;> rfl
theorem lk_none_of {α : Type} {g : Nat} : ∀ {A : List (Nat × α)}, g ∉ A.map (·.1) → lk A g = none
  | [], _ => rfl
  | (k, x) :: l, h => by
    simp only [List.map_cons, List.mem_cons, not_or] at h
    rw [lk_skip _ _ (Ne.symm h.1)]
    exact lk_none_of h.2

section
variable {P : Program} {T : Tbl} {n i : Nat} {ops : Array Oper} {st : St} {o : Oper} {d : Nat} {r : AV} {A : Own}
theorem ev_looks_refs {g : Nat} (h : ∀ t ∈ o.looksAt ops, ∀ a, lk st.t t = some a → a.refs g = false) : ∀ x ∈ o.op.operands, (st.ev x).refs g = false := by
  intro x hx
  cases x with
  | tmp t =>
    show ((lk st.t t).getD .any).refs g = false
    cases e : lk st.t t with
    | none => rfl
    | some a => exact h t (List.mem_append_left _ (List.mem_filterMap.2 ⟨.tmp t, by simpa using hx, rfl⟩)) a e
  | const v => exact liftV_refs g v
  | func f => rfl
  | global _ => rfl
theorem noH_only {g : Nat} {R : List Nat} {H : Own} (h : ∀ k ∈ R, ∀ ob, lk H k = some ob → AV.refsL g ob.cells = false) : NoH g (only R H) := fun k ob hk => by
  rw [lk_only] at hk
  split at hk
  · rename_i hR; exact h k hR ob hk
  · cases hk
theorem Step.loc (ho : ops[i]? = some o) (hg : o.guard = none) (hd : o.dst = some d) (hn : d < n) (hE : LEff P T st.ev st.own d o.op r A) (hf : Fresh st A) : Step P T n ops i ⟨opN st.t o.op, A.map (·.1), A.map (·.1)⟩ st ⟨(d, r) :: st.t, A ++ st.own⟩ := by
  intro hT
  have hL : LocStep P T n ops i st d r A := .loc ho hg hd hn hE
  refine ⟨o, some (d, r), A.map fun p => (p.1, some p.2), ho, ⟨fun s2 s2' e1 e2 hf2 hi => ?_, fun g e1 e2 e3 _ => ?_, fun q hq => (by obtain rfl := Option.some.inj hq; exact hd), fun k x hk => ?_, fun g hg => hg⟩, fun g hg => ?_, ⟨fun _ => rfl, fun g => ?_⟩⟩
  · have h2 : LocStep P T n ops i s2 d r A := hL.at_ ho e1 (by
      rcases Bool.eq_false_or_eq_true (pureOp o.op) with h | h
      · exact .inl h
      · exact .inr fun g hx => e2 g ((opN_refs hx).resolve_left (by rw [h]; simp)))
    refine (h2.step fun p hp => ⟨(hf p hp).1, hf2 p.1 (List.mem_map.2 ⟨p, hp, rfl⟩)⟩).sem hT ⟨fun j => hi.1 j, fun g => ?_⟩
    rw [hi.2, lk_append]
    unfold eff
    rw [lk_mapSome]
    cases lk A g <;> rfl
  · have hA : lk A g = none := lk_none_of e3
    have key : r.refs g = false ∧ NoH g A := by
      rcases Bool.eq_false_or_eq_true (pureOp o.op) with h | h
      · exact ((hE.pure h []).1).refs hT (ev_looks_refs e1) (noH_nil g) hA
      · exact (hE.own (H' := only (opN st.t o.op) st.own) fun k hx => by rw [lk_only, if_pos ((opN_refs hx).resolve_left (by rw [h]; simp))]).refs hT (ev_looks_refs e1) (noH_only e2) hA
    refine ⟨fun q hq => by obtain rfl := Option.some.inj hq; exact key.1, fun k ob hk => ?_⟩
    rw [lk_mapSome] at hk
    cases e : lk A k with
    | none => rw [e] at hk; cases hk
    | some x => rw [e] at hk; simp at hk; subst hk; exact key.2 k x e
  · show k ∈ A.map (·.1)
    rw [lk_mapSome] at hk
    cases e : lk A k with
    | none => rw [e] at hk; cases hk
    | some x => exact List.mem_map.2 ⟨(k, x), lk_mem e, rfl⟩
  · obtain ⟨p, hp, rfl⟩ := List.mem_map.1 hg
    exact (hf p hp).2
  · show lk (A ++ st.own) g = _
    rw [lk_append]
    unfold eff
    rw [lk_mapSome]
    cases lk A g <;> rfl
theorem Step.gst {oj : Oper} {j t : Nat} {want : Bool} {c : Prop} {ag : AV} {ρ : Operand → AV} (ho : ops[i]? = some o) (h2 : o.guard = some (j, want)) (hd : o.dst = some d) (h4 : d < n) (h5 : ops[j]? = some oj) (h6 : oj.dst = some t) (h7 : t < n) (h8 : lk st.t t = some ag) (hgv : GVal want ag c)
    (h9 : c → (∀ x ∈ o.op.operands, Und c (st.ev x) (ρ x)) ∧ LEff P T ρ st.own d o.op r []) (h10 : r.sub (o.op.operands.toList.map st.ev) = true) (h11 : loudOp o.op = false) : Step P T n ops i ⟨opN st.t o.op, [], []⟩ st ⟨(d, .whn c r) :: st.t, st.own⟩ := by
  intro hT
  have hL : LocStep P T n ops i st d (.whn c r) [] := .gst ho h2 hd h4 h5 h6 h7 h8 hgv h9 h10 h11 rfl
  refine ⟨o, some (d, .whn c r), [], ho, ⟨fun s2 s2' e1 e2 hf2 hi => ?_, fun g e1 e2 e3 _ => ?_, fun q hq => (by obtain rfl := Option.some.inj hq; exact hd), fun k x hk => (by cases hk), fun g hg => hg⟩, fun g hg => (by cases hg), ⟨fun _ => rfl, fun g => rfl⟩⟩
  · have h2 : LocStep P T n ops i s2 d (.whn c r) [] := hL.at_ ho e1 (by
      rcases Bool.eq_false_or_eq_true (pureOp o.op) with h | h
      · exact .inl h
      · exact .inr fun g hx => e2 g ((opN_refs hx).resolve_left (by rw [h]; simp)))
    exact (h2.step fun p hp => by cases hp).sem hT ⟨fun j => hi.1 j, fun g => hi.2 g⟩
  · refine ⟨fun q hq => ?_, fun k ob hk => (by cases hk)⟩
    obtain rfl := Option.some.inj hq
    exact AV.sub_refs (a := .whn c r) (fun a ha => by obtain ⟨x, hx, rfl⟩ := List.mem_map.1 ha; exact ev_looks_refs e1 x (by simpa using hx)) h10
theorem Step.sto {t g off : Nat} {x y : Operand} {ob : OB} {us cs : List AV} {own' : Own} (ho : ops[i]? = some o) (h2 : o.guard = none) (h3 : o.dst = none) (h4 : o.op = .store t x y) (h5 : st.ev x = .optr g off) (h6 : lk st.own g = some ob) (h7 : cells1 (st.ev y) = some us) (h8 : onesB us = true) (h9 : sizeB T t us.length = true) (h10 : setC ob.cells off us = some cs) (h11 : ∀ i, lk own' i = lk ((g, ob.put cs) :: st.own) i) :
    Step P T n ops i ⟨[g], [g], []⟩ st ⟨st.t, own'⟩ := by
  intro hT
  refine ⟨o, none, [(g, some (ob.put cs))], ho, ⟨fun s2 s2' e1 e2 hf2 hi => ?_, fun k e1 e2 e3 _ => ?_, fun q hq => (by cases hq), fun k x hk => ?_, fun g hg => (by cases hg)⟩, fun g hg => (by cases hg), ⟨fun _ => rfl, fun k => ?_⟩⟩
  · have he := ev_looks (st := st) (st' := s2) e1
    rw [h4] at he
    have hs : OpStep P T n ops i s2 ⟨s2.t, (g, ob.put cs) :: s2.own⟩ := .sto ho h2 h3 h4 ((he x (by simp [Op.operands])).trans h5) ((e2 g (by simp)).trans h6) (by rw [he y (by simp [Op.operands])]; exact h7) h8 h9 h10 (fun _ => rfl)
    refine hs.sem hT ⟨fun j => hi.1 j, fun k => ?_⟩
    rw [hi.2]
    rw [eff_cons, lk_cons]
    rfl
  · refine ⟨fun q hq => (by cases hq), fun k' ob' hk => ?_⟩
    rw [lk_cons] at hk
    split at hk
    · simp only [Option.some.injEq] at hk
      subst hk
      rw [show (ob.put cs).cells = cs from by cases ob <;> rfl]
      obtain ⟨_, rfl⟩ := setC_eq h10
      have h12 := e2 g (by simp) ob h6
      have h13 := ev_looks_refs e1
      rw [h4] at h13
      exact refsL_append (refsL_append (refsL_take _ h12) (cells1_refs h7 (h13 y (by simp [Op.operands])))) (refsL_drop _ h12)
    · cases hk
  · rw [lk_cons] at hk
    split at hk
    · rename_i e; subst e; simp
    · cases hk
  · show lk own' k = _
    rw [h11]
    rw [eff_cons, lk_cons]
    rfl
theorem Step.app {t e s b k m : Nat} {x y : Operand} {cs news : List AV} {H' : Own} (ho : ops[i]? = some o) (h2 : o.guard = none) (hd : o.dst = some d) (h4 : d < n) (h5 : o.op = .call { callee := .builtin .append, args := #[x, y], argTypes := #[t, t] }) (h6 : lk T.sli t = some (e, s, b))
    (hB : ABase st.own e s (st.ev x) k cs H') (hS : ASrc st.own s (st.ev y) m news) (h9 : k + m ≤ maxLen) (h10 : (k + m) * b ≤ 140737488355328) (hf : Fresh st [(d, .row e s (k + m) (cs ++ news))]) :
    Step P T n ops i ⟨baseN (st.ev x) ++ baseN (st.ev y), d :: baseN (st.ev x), [d]⟩ st ⟨(d, .osl d) :: st.t, (d, .row e s (k + m) (cs ++ news)) :: H'⟩ := by
  intro hT
  obtain ⟨hlow, hnT, hnH⟩ := hf (d, .row e s (k + m) (cs ++ news)) (by simp)
  have hbase : ∀ s2 : St, s2.ev x = st.ev x → (∀ g ∈ baseN (st.ev x), lk s2.own g = lk st.own g) → ABase s2.own e s (s2.ev x) k cs (appD ((baseN (st.ev x)).map fun g => (g, none)) s2.own) := by
    intro s2 hx hl
    rw [hx]
    generalize st.ev x = ax at hB hl
    cases hB with
    | nil => exact .nil
    | @own g _ _ _ hg _ => exact .own ((hl g (by simp [baseN])).trans hg) (rmv_p g _)
  have hsrc : ∀ s2 : St, s2.ev y = st.ev y → (∀ g ∈ baseN (st.ev y), lk s2.own g = lk st.own g) → ASrc s2.own s (s2.ev y) m news := by
    intro s2 hy hl
    rw [hy]
    generalize st.ev y = ay at hS hl
    cases hS with
    | nil => exact .nil
    | fz h => exact .fz h
    | @own g _ _ _ hg h1 => exact .own ((hl g (by simp [baseN])).trans hg) h1
  have hH' : ∀ g, lk H' g = lk (appD ((baseN (st.ev x)).map fun g => (g, none)) st.own) g := by
    intro g
    generalize st.ev x = ax at hB
    cases hB with
    | nil => rfl
    | @own g0 _ _ _ hg hr =>
      simp only [baseN, List.map_cons, List.map_nil, appD]
      rw [lk_rmv]
      split
      · rename_i e; subst e; exact hr.1
      · rename_i e; exact hr.2 g (Ne.symm e)
  refine ⟨o, some (d, .osl d), (d, some (.row e s (k + m) (cs ++ news))) :: (baseN (st.ev x)).map fun g => (g, none), ho, ⟨fun s2 s2' e1 e2 hf2 hi => ?_, fun g e1 e2 e3 _ => ?_, fun q hq => (by obtain rfl := Option.some.inj hq; exact hd), fun q z hk => ?_, fun g hg => (by simp at hg; simp [hg])⟩, fun g hg => ?_, ⟨fun _ => rfl, fun g => ?_⟩⟩
  · have he := ev_looks (st := st) (st' := s2) e1
    rw [h5] at he
    have hx := he x (by simp [Op.operands, Call.operands])
    have hy := he y (by simp [Op.operands, Call.operands])
    have hs : OpStep P T n ops i s2 _ := .app ho h2 hd h4 h5 h6 (hbase s2 hx fun g hg => e2 g (List.mem_append_left _ hg)) (hsrc s2 hy fun g hg => e2 g (List.mem_append_right _ hg)) h9 h10 (fun p hp => by simp at hp; subst hp; exact ⟨hlow, hf2 d (by simp)⟩)
    refine hs.sem hT ⟨fun j => hi.1 j, fun g => ?_⟩
    rw [hi.2, eff_cons, lk_cons, lk_app]
  · have h13 := ev_looks_refs e1
    rw [h5] at h13
    have hx := h13 x (by simp [Op.operands, Call.operands])
    have hy := h13 y (by simp [Op.operands, Call.operands])
    refine ⟨fun q hq => ?_, fun q ob hk => ?_⟩
    · obtain rfl := Option.some.inj hq
      simp only [AV.refs]
      cases e : Nat.beq d g with
      | false => rfl
      | true => exact absurd (Nat.eq_of_beq_eq_true e) (by intro e; subst e; simp at e3)
    · rw [lk_cons] at hk
      split at hk
      · simp only [Option.some.injEq] at hk
        subst hk
        refine refsL_append ?_ ?_
        · generalize st.ev x = ax at hB hx e2
          cases hB with
          | nil => rfl
          | @own g0 _ _ _ hg _ => exact e2 g0 (by simp [baseN]) _ hg
        · generalize st.ev y = ay at hS hy e2
          cases hS with
          | nil => rfl
          | fz _ => exact refsL_fv _
          | @own g0 _ _ _ hg _ => exact e2 g0 (by simp [baseN]) _ hg
      · have : ∀ (l : List Nat), lk (l.map fun g => (g, (none : Option OB))) q ≠ some (some ob) := by
          intro l
          induction l with
          | nil => simp [lk]
          | cons a l ih =>
            simp only [List.map_cons, lk_cons]
            split
            · simp
            · exact ih
        exact absurd hk (this _)
  · rw [lk_cons] at hk
    split at hk
    · rename_i e; subst e; simp
    · obtain ⟨y', hy'⟩ : ∃ y, (q, y) ∈ (baseN (st.ev x)).map fun g => (g, (none : Option OB)) := ⟨z, lk_mem hk⟩
      simp only [List.mem_map, Prod.mk.injEq] at hy'
      obtain ⟨a, ha, rfl, _⟩ := hy'
      simp [ha]
  · simp at hg
    subst hg
    exact ⟨hnT, hnH⟩
  · show lk ((d, _) :: H') g = _
    rw [eff_cons, lk_cons, hH', lk_app]
end

section
variable {P : Program} {T : Tbl} {n i : Nat} {ops : Array Oper} {l : List Oper} {fps : List Fp} {K : St → Prop} {t : List (Nat × AV)} {H A : Own} {o : Oper} {d : Nat} {r : AV}
theorem Ops.loc (hg : o.guard = none) (hd : o.dst = some d) (hn : Nat.blt d n = true) (hE : LEff P T (St.ev ⟨t, H⟩) H d o.op r []) (hK : OpsL P T n ops (i + 1) l fps K ⟨(d, r) :: t, H⟩) : OpsL P T n ops i (o :: l) (⟨opN t o.op, [], []⟩ :: fps) K ⟨t, H⟩ :=
  ⟨_, _, rfl, fun ho => ⟨_, .loc ho hg hd (by simpa [Nat.blt_eq] using hn) hE (fun _ h => by cases h), hK.out⟩⟩
theorem Ops.new {g : Nat} {ob : OB} (hg : o.guard = none) (hd : o.dst = some d) (hn : Nat.blt d n = true) (hE : LEff P T (St.ev ⟨t, H⟩) H d o.op r [(g, ob)]) (hf : freshB ⟨t, H⟩ [(g, ob)] = true) (hK : OpsL P T n ops (i + 1) l fps K ⟨(d, r) :: t, (g, ob) :: H⟩) : OpsL P T n ops i (o :: l) (⟨opN t o.op, [g], [g]⟩ :: fps) K ⟨t, H⟩ :=
  ⟨_, _, rfl, fun ho => ⟨_, .loc ho hg hd (by simpa [Nat.blt_eq] using hn) hE (freshB_mem hf), hK.out⟩⟩
theorem Ops.gst {oj : Oper} {j tj : Nat} {want : Bool} {ag : AV} {c : Prop} (hg : o.guard = some (j, want)) (hd : o.dst = some d) (hn : Nat.blt d n = true) (hj : ops[j]? = some oj) (hdj : oj.dst = some tj) (hnj : Nat.blt tj n = true) (hb : lk t tj = some ag) (hgv : GVal want ag c)
    (hgo : c → gokAll c ⟨t, H⟩ o.op.operands.toList) (hE : c → LEff P T (fun x => (St.ev ⟨t, H⟩ x).strip) H d o.op r []) (hf : r.sub (o.op.operands.toList.map (St.ev ⟨t, H⟩)) = true) (hq : loudOp o.op = false) (hK : OpsL P T n ops (i + 1) l fps K ⟨(d, .whn c r) :: t, H⟩) : OpsL P T n ops i (o :: l) (⟨opN t o.op, [], []⟩ :: fps) K ⟨t, H⟩ :=
  ⟨_, _, rfl, fun ho => ⟨_, .gst ho hg hd (by simpa [Nat.blt_eq] using hn) hj hdj (by simpa [Nat.blt_eq] using hnj) hb hgv (fun h => ⟨fun x hx => .strip (gokAll_mem (hgo h) x (by simpa using hx)), hE h⟩) hf hq, hK.out⟩⟩
theorem Ops.gand {oj : Oper} {j tj : Nat} {want b b' : Bool} {ag : AV} {c c1 c2 : Prop} {q x : Operand} (hg : o.guard = some (j, want)) (hd : o.dst = some d) (hn : Nat.blt d n = true) (hj : ops[j]? = some oj) (hdj : oj.dst = some tj) (hnj : Nat.blt tj n = true) (hb : lk t tj = some ag) (hgv : GVal want ag c)
    (hop : o.op = .pick q x (.const (.bool false))) (h1 : evO t q = some (.whn c1 (.fv (.bool b)))) (h2 : evO t x = some (.whn c2 (.fv (.bool b')))) (hxq : q ≠ x) (h4 : c → c1) (h5 : c → (c2 ↔ b = true)) (hK : OpsL P T n ops (i + 1) l fps K ⟨(d, .whn c (.fv (.bool (b && b')))) :: t, H⟩) : OpsL P T n ops i (o :: l) (⟨opN t o.op, [], []⟩ :: fps) K ⟨t, H⟩ := by
  refine ⟨_, _, rfl, fun ho => ?_⟩
  classical
  have e1 := evO_ev (st := ⟨t, H⟩) h1
  have e2 := evO_ev (st := ⟨t, H⟩) h2
  by_cases hcn : c
  · refine ⟨_, .gst (st := ⟨t, H⟩) (ρ := fun z => if z = x then .whn (b = true) (.fv (.bool b')) else if z = q then .fv (.bool b) else (St.ev ⟨t, H⟩ z)) ho hg hd (by simpa [Nat.blt_eq] using hn) hj hdj (by simpa [Nat.blt_eq] using hnj) hb hgv (fun hc => ⟨fun z hz => ?_, ?_⟩) rfl (by rw [hop]; rfl), hK.out⟩
    · by_cases hzx : z = x
      · subst hzx
        simp only [if_true, e2]
        exact .part h5
      · by_cases hzq : z = q
        · subst hzq
          simp only [hzx, if_false, if_true, e1]
          exact .strip (a := .whn c1 (.fv (.bool b))) h4
        · simp only [hzx, hzq, if_false]; exact .refl _
    · rw [hop]
      have h6 : (Operand.const (Value.bool false)) ≠ x := by rintro rfl; simp [evO] at h2
      have h7 : (Operand.const (Value.bool false)) ≠ q := by rintro rfl; simp [evO] at h1
      have hA : (if q = x then AV.whn (b = true) (.fv (.bool b')) else if q = q then .fv (.bool b) else (St.ev ⟨t, H⟩ q)) = .fv (.bool b) := by simp [hxq]
      have hB : (if x = x then AV.whn (b = true) (.fv (.bool b')) else if x = q then .fv (.bool b) else (St.ev ⟨t, H⟩ x)) = .whn (b = true) (.fv (.bool b')) := by simp
      have hC : (if (Operand.const (Value.bool false)) = x then AV.whn (b = true) (.fv (.bool b')) else if (Operand.const (Value.bool false)) = q then .fv (.bool b) else (St.ev ⟨t, H⟩ (Operand.const (Value.bool false)))) = .fv (.bool false) := by simp [h6, h7, St.ev, liftV]
      exact .eff (.and hA hB hC)
  · exact ⟨_, .gst (st := ⟨t, H⟩) (ρ := fun _ => .any) ho hg hd (by simpa [Nat.blt_eq] using hn) hj hdj (by simpa [Nat.blt_eq] using hnj) hb hgv (fun hc => absurd hc hcn) rfl (by rw [hop]; rfl), hK.out⟩
theorem Ops.gor {oj : Oper} {j tj : Nat} {want b b' : Bool} {ag : AV} {c c1 c2 : Prop} {q x : Operand} (hg : o.guard = some (j, want)) (hd : o.dst = some d) (hn : Nat.blt d n = true) (hj : ops[j]? = some oj) (hdj : oj.dst = some tj) (hnj : Nat.blt tj n = true) (hb : lk t tj = some ag) (hgv : GVal want ag c)
    (hop : o.op = .pick q (.const (.bool true)) x) (h1 : evO t q = some (.whn c1 (.fv (.bool b)))) (h2 : evO t x = some (.whn c2 (.fv (.bool b')))) (hxq : q ≠ x) (h4 : c → c1) (h5 : c → (c2 ↔ b = false)) (hK : OpsL P T n ops (i + 1) l fps K ⟨(d, .whn c (.fv (.bool (b || b')))) :: t, H⟩) : OpsL P T n ops i (o :: l) (⟨opN t o.op, [], []⟩ :: fps) K ⟨t, H⟩ := by
  refine ⟨_, _, rfl, fun ho => ?_⟩
  classical
  have e1 := evO_ev (st := ⟨t, H⟩) h1
  have e2 := evO_ev (st := ⟨t, H⟩) h2
  by_cases hcn : c
  · refine ⟨_, .gst (st := ⟨t, H⟩) (ρ := fun z => if z = x then .whn (b = false) (.fv (.bool b')) else if z = q then .fv (.bool b) else (St.ev ⟨t, H⟩ z)) ho hg hd (by simpa [Nat.blt_eq] using hn) hj hdj (by simpa [Nat.blt_eq] using hnj) hb hgv (fun hc => ⟨fun z hz => ?_, ?_⟩) rfl (by rw [hop]; rfl), hK.out⟩
    · by_cases hzx : z = x
      · subst hzx
        simp only [if_true, e2]
        exact .part h5
      · by_cases hzq : z = q
        · subst hzq
          simp only [hzx, if_false, if_true, e1]
          exact .strip (a := .whn c1 (.fv (.bool b))) h4
        · simp only [hzx, hzq, if_false]; exact .refl _
    · rw [hop]
      have h6 : (Operand.const (Value.bool true)) ≠ x := by rintro rfl; simp [evO] at h2
      have h7 : (Operand.const (Value.bool true)) ≠ q := by rintro rfl; simp [evO] at h1
      have hA : (if q = x then AV.whn (b = false) (.fv (.bool b')) else if q = q then .fv (.bool b) else (St.ev ⟨t, H⟩ q)) = .fv (.bool b) := by simp [hxq]
      have hB : (if x = x then AV.whn (b = false) (.fv (.bool b')) else if x = q then .fv (.bool b) else (St.ev ⟨t, H⟩ x)) = .whn (b = false) (.fv (.bool b')) := by simp
      have hC : (if (Operand.const (Value.bool true)) = x then AV.whn (b = false) (.fv (.bool b')) else if (Operand.const (Value.bool true)) = q then .fv (.bool b) else (St.ev ⟨t, H⟩ (Operand.const (Value.bool true)))) = .fv (.bool true) := by simp [h6, h7, St.ev, liftV]
      exact .eff (.or hA hC hB)
  · exact ⟨_, .gst (st := ⟨t, H⟩) (ρ := fun _ => .any) ho hg hd (by simpa [Nat.blt_eq] using hn) hj hdj (by simpa [Nat.blt_eq] using hnj) hb hgv (fun hc => absurd hc hcn) rfl (by rw [hop]; rfl), hK.out⟩
theorem Ops.nil {st : St} (h : K st) : OpsL P T n ops i [] [] K st := ⟨rfl, h⟩
theorem LEff.callL {f : Operand} {args : Array Operand} {ts : Array TypeId} {fid : FuncId} {cs as0 as : List AV} (h1 : evO t f = some (.fn fid cs)) (h2 : evL t args.toList = some as0) (h3 : as0 ++ cs = as) (h4 : Fun P fid as r) (h5 : r.flat = true) :
    LEff P T (St.ev ⟨t, H⟩) H d (.call { callee := .value f, args := args, argTypes := ts }) r [] :=
  .call (evO_ev (st := ⟨t, H⟩) h1) (by rw [evL_ev (st := ⟨t, H⟩) h2, h3]; exact .refl _) h4 h5
theorem LEff.callG {f : Operand} {args : Array Operand} {ts : Array TypeId} {fid : FuncId} {cs as0 as : List AV} (h1 : evG t f = some (.fn fid cs)) (h2 : evGL t args.toList = some as0) (h3 : as0 ++ cs = as) (h4 : Fun P fid as r) (h5 : r.flat = true) :
    LEff P T (fun x => (St.ev ⟨t, H⟩ x).strip) H d (.call { callee := .value f, args := args, argTypes := ts }) r [] :=
  .call (evG_ev (st := ⟨t, H⟩) h1) (by rw [evGL_ev (st := ⟨t, H⟩) h2, h3]; exact .refl _) h4 h5
theorem WP.condT {c : Operand} {x y : Code} {Q : Exit → St → Prop} {st : St} (hc : st.ev c = .fv (.bool true)) (h : WP P n x Q st) : WP P n (.cond c x y) Q st := .cond hc (fun _ => h) (fun e => by cases e)
theorem WP.condF {c : Operand} {x y : Code} {Q : Exit → St → Prop} {st : St} (hc : st.ev c = .fv (.bool false)) (h : WP P n y Q st) : WP P n (.cond c x y) Q st := .cond hc (fun e => by cases e) (fun _ => h)
theorem thenQ.nor {next : St → Prop} {Q : Exit → St → Prop} {s : St} (h : next s) : thenQ next Q .normal s := h
theorem thenQ.ex {next : St → Prop} {Q : Exit → St → Prop} {s : St} {i : Nat} (h : Q (.exit i) s) : thenQ next Q (.exit i) s := h
theorem thenQ.ret {next : St → Prop} {Q : Exit → St → Prop} {s : St} (h : Q .ret s) : thenQ next Q .ret s := h
theorem blockQ.nor {Q : Exit → St → Prop} {s : St} {id : Nat} (h : Q .normal s) : blockQ id Q .normal s := h
theorem blockQ.ret {Q : Exit → St → Prop} {s : St} {id : Nat} (h : Q .ret s) : blockQ id Q .ret s := h
theorem blockQ.hit {Q : Exit → St → Prop} {s : St} {i id : Nat} (e : Nat.beq i id = true) (h : Q .normal s) : blockQ id Q (.exit i) s := by simp only [blockQ, e]; exact h
theorem blockQ.out {Q : Exit → St → Prop} {s : St} {i id : Nat} (e : Nat.beq i id = false) (h : Q (.exit i) s) : blockQ id Q (.exit i) s := by simp only [blockQ, e]; exact h
theorem WP.reg {id : Nat} {Q : Exit → St → Prop} {st : St} (hT : T.Ok P) (hl : ops.toList = l) (h : OpsL P T n ops 0 l fps (Q .normal) st) : WP P n (.region id ops false) Q st := .region (OpsL.all hT (by rw [hl]; exact h))
theorem Ops.some_ {F : Nat → Fp} : ∀ (l : List Nat) {st : St}, Ops P n ops F l K st → ∃ s, K s
  | [], st, h => ⟨st, h⟩
  | _ :: l, _, ⟨_, _, h⟩ => Ops.some_ l h
theorem Ops.mono_ {F : Nat → Fp} {K' : St → Prop} (hk : ∀ s, K s → K' s) : ∀ (l : List Nat) {st : St}, Ops P n ops F l K st → Ops P n ops F l K' st
  | [], _, h => hk _ h
  | _ :: l, _, ⟨s, h1, h2⟩ => ⟨s, h1, Ops.mono_ hk l h2⟩
def drwK (ops : Array Oper) (fps : List Fp) (st : St) (K : St → Prop) (s : St) : Prop := okF ops fps = true ∧ freeF fps st = true ∧ K s
theorem drwK.mk {st s : St} (h1 : okF ops fps = true) (h2 : freeF fps st = true) (h : K s) : drwK ops fps st K s := ⟨h1, h2, h⟩
theorem WP.drwL {id : Nat} {Q : Exit → St → Prop} {st : St} (hT : T.Ok P) (hm : P.follows .mixedOrders = true) (hl : ops.toList = l) (h : OpsL P T n ops 0 l fps (drwK ops fps st (Q .normal)) st) : WP P n (.region id ops true) Q st := by
  have h1 := OpsL.all hT (by rw [hl]; exact h)
  obtain ⟨_, h2, h3, _⟩ := Ops.some_ _ h1
  exact .drw hm h2 h3 (Ops.mono_ (fun s hs => hs.2.2) _ h1)
end
end Go.Proofs.YtmidechdlbcepaaGreat

namespace Go.Proofs.YtmidechdlbcepaaGreat
open Go.RowKit

structure Mx where
  field : Int
  mask : Int
  value : Int
structure Dx where
  kind : Int
  a : Int
  n : Int
structure Fl where
  table : Int
  prio : Int
  ms : List Mx
  ds : List Dx
def encMx (m : Mx) : List FV := [.int .i64 m.field, .int .i64 m.mask, .int .i64 m.value]
def encDx (d : Dx) : List FV := [.int .i64 d.kind, .int .i64 d.a, .int .i64 d.n]
def encFl (f : Fl) : List FV := [.int .i64 f.table, .int .i64 f.prio, slOf encMx f.ms, slOf encDx f.ds]
def encFr (f : Fr) : List FV := [.int .i64 f.dst, .int .i64 f.src, .int .i64 f.kind, .int .i64 f.ipSrc, .int .i64 f.ipDst, .int .i64 f.ttl, .int .i64 f.port, .str f.body]
def encPk (p : Pk) : List FV := [.int .i64 p.f0, .int .i64 p.f1, .int .i64 p.f2, .int .i64 p.f3, .int .i64 p.f4, .int .i64 p.f5, .int .i64 p.f6, .int .i64 p.f7, .int .i64 p.f8, .int .i64 p.f9, .str p.body]
theorem encMx_len (m : Mx) : (encMx m).length = 3 := rfl
theorem encDx_len (m : Dx) : (encDx m).length = 3 := rfl
theorem encFl_len (m : Fl) : (encFl m).length = 4 := rfl

def dxMay (d : Dx) (table : Int) (last : Bool) : Bool :=
  if d.kind = 1 then inR d.a 0 9 && word d.n
  else if d.kind = 2 then inR d.a 0 9 && inR d.n 0 9
  else if d.kind = 3 then inR d.a 0 9 && decide (d.n = 0)
  else if d.kind = 4 then decide (d.a = 0) && inR d.n (table + 1) 7 && last
  else if d.kind = 5 then decide (d.a = 0) && word d.n
  else if d.kind = 6 then decide (d.a = 0) && inR d.n 0 5
  else false
def maskd (n m : Int) : Int := ((n.toNat &&& m.toNat : Nat) : Int)
def mxOk (m : Mx) : Bool := inR m.field 0 9 && word m.mask && word m.value && decide (maskd m.value m.mask = m.value)
def dxOk (table : Int) : List Dx → Bool
  | [] => true
  | d :: l => dxMay d table l.isEmpty && dxOk table l
def flFault (f : Fl) : Int :=
  if 12 < f.ms.length ∨ 100 < f.ds.length then 1
  else if inR f.table 0 7 = false ∨ inR f.prio 0 2000 = false then 2
  else if f.ms.all mxOk = false then 4
  else if dxOk f.table f.ds = false then 4
  else 0
def flsFault : List Fl → Int
  | [] => 0
  | f :: l => if flFault f = 0 then flsFault l else flFault f
def flowsFault (l : List Fl) : Int := if 5000 < l.length then 1 else flsFault l

theorem flsFault_at {l : List Fl} {k : Nat} {f : Fl} (hk : l[k]? = some f) (h : flsFault l = flsFault (l.drop k)) : flsFault l = if flFault f = 0 then flsFault (l.drop (k + 1)) else flFault f := by
  rw [h]
  have hlt := (List.getElem?_eq_some_iff.1 hk).1
  have : l.drop k = f :: l.drop (k + 1) := by rw [List.drop_eq_getElem_cons hlt, (List.getElem?_eq_some_iff.1 hk).2]
  rw [this, flsFault]
theorem dxOk_at {t : Int} {l : List Dx} {k : Nat} {d : Dx} (hk : l[k]? = some d) : dxOk t (l.drop k) = (dxMay d t (decide (k + 1 = l.length)) && dxOk t (l.drop (k + 1))) := by
  have hlt := (List.getElem?_eq_some_iff.1 hk).1
  have e : l.drop k = d :: l.drop (k + 1) := by rw [List.drop_eq_getElem_cons hlt, (List.getElem?_eq_some_iff.1 hk).2]
  rw [e, dxOk]
  congr 2
  rw [Bool.eq_iff_iff]
  simp [List.isEmpty_iff, List.drop_eq_nil_iff]
  omega
end Go.Proofs.YtmidechdlbcepaaGreat

namespace Go.Proofs.YtmidechdlbcepaaGreat
open Go.RowKit

def mx3 (m : Mx) : List Int := [m.field, m.mask, m.value]
def dx3 (d : Dx) : List Int := [d.kind, d.a, d.n]
def numsOf (f : Fl) : List Int := [(f.ms.length : Int), (f.ds.length : Int)] ++ f.ms.flatMap mx3 ++ f.ds.flatMap dx3
def cmpI (a b : Int) : Int := if a < b then -1 else if b < a then 1 else 0
def cmpL : List Int → List Int → Int
  | [], [] => 0
  | [], _ :: _ => -1
  | _ :: _, [] => 1
  | a :: l, b :: m => if cmpI a b ≠ 0 then cmpI a b else cmpL l m
def keyOf (f : Fl) : List Int := f.table :: (-f.prio) :: numsOf f
def ordF (x y : Fl) : Int := cmpL (keyOf x) (keyOf y)
theorem cmpI_neg (a b : Int) : cmpI b a = -cmpI a b := by unfold cmpI; repeat' split; all_goals omega
theorem cmpI_eq {a b : Int} : cmpI a b = 0 ↔ a = b := by unfold cmpI; repeat' split; all_goals omega
theorem cmpI_swap (a b : Int) : cmpI (-a) (-b) = cmpI b a := by unfold cmpI; repeat' split; all_goals omega
theorem cmpL_refl : ∀ l : List Int, cmpL l l = 0
  | [] => rfl
  | a :: l => by
    have h : cmpI a a = 0 := cmpI_eq.2 rfl
    rw [cmpL, if_neg (by omega), cmpL_refl l]
theorem cmpL_eq : ∀ {l m : List Int}, cmpL l m = 0 → l = m
  | [], [], _ => rfl
  | [], _ :: _, h => by simp [cmpL] at h
  | _ :: _, [], h => by simp [cmpL] at h
  | a :: l, b :: m, h => by
    unfold cmpL at h
    split at h
    · omega
    · rename_i h2
      have e : cmpI a b = 0 := by omega
      rw [cmpI_eq.1 e, cmpL_eq h]
theorem cmpL_neg : ∀ (l m : List Int), cmpL m l = -cmpL l m
  | [], [] => rfl
  | [], _ :: _ => rfl
  | _ :: _, [] => rfl
  | a :: l, b :: m => by
    have h := cmpI_neg a b
    unfold cmpL
    by_cases h0 : cmpI a b = 0
    · rw [if_neg (by omega), if_neg (by omega), cmpL_neg l m]
    · rw [if_pos (by omega), if_pos (by omega), h]
theorem cmpI_lt {a b : Int} : cmpI a b < 0 ↔ a < b := by
  unfold cmpI
  by_cases h : a < b
  · rw [if_pos h]; omega
  · rw [if_neg h]
    split <;> omega
theorem cmpI_trans {a b c : Int} (h1 : cmpI a b < 0) (h2 : cmpI b c < 0) : cmpI a c < 0 := by
  rw [cmpI_lt] at *
  omega
theorem cmpL_trans : ∀ {l m n : List Int}, cmpL l m < 0 → cmpL m n < 0 → cmpL l n < 0
  | [], [], _, h, _ => by simp [cmpL] at h
  | _ :: _, [], _, h, _ => by simp [cmpL] at h
  | _, _ :: _, [], _, h => by simp [cmpL] at h
  | [], _ :: _, _ :: _, _, _ => by simp [cmpL]
  | a :: l, b :: m, c :: n, h1, h2 => by
    unfold cmpL at h1 h2 ⊢
    by_cases e1 : cmpI a b = 0
    · obtain rfl := cmpI_eq.1 e1
      rw [if_neg (by omega)] at h1
      by_cases e2 : cmpI a c = 0
      · rw [if_neg (by omega)] at h2 ⊢
        exact cmpL_trans h1 h2
      · rw [if_pos e2] at h2 ⊢
        exact h2
    · rw [if_pos e1] at h1
      by_cases e2 : cmpI b c = 0
      · obtain rfl := cmpI_eq.1 e2
        rw [if_pos e1]
        exact h1
      · rw [if_pos e2] at h2
        have := cmpI_trans h1 h2
        rw [if_pos (by omega)]
        exact this
theorem flat_inj {α : Type} {f : α → List Int} {s : Nat} (hl : ∀ x, (f x).length = s) (hi : ∀ x y, f x = f y → x = y) : ∀ {l m : List α}, l.length = m.length → l.flatMap f = m.flatMap f → l = m
  | [], [], _, _ => rfl
  | [], _ :: _, h, _ => by simp at h
  | _ :: _, [], h, _ => by simp at h
  | x :: l, y :: m, h, e => by
    rw [List.flatMap_cons, List.flatMap_cons] at e
    obtain ⟨e1, e2⟩ := List.append_inj e (by rw [hl, hl])
    rw [hi x y e1, flat_inj hl hi (by simpa using h) e2]
theorem flat_len {α : Type} {f : α → List Int} {s : Nat} (hl : ∀ x, (f x).length = s) : ∀ l : List α, (l.flatMap f).length = s * l.length
  | [] => by simp
  | x :: l => by rw [List.flatMap_cons, List.length_append, hl, flat_len hl l, List.length_cons, Nat.mul_add]; omega
theorem keyOf_inj {x y : Fl} (h : keyOf x = keyOf y) : x = y := by
  obtain ⟨t, p, ms, ds⟩ := x
  obtain ⟨t', p', ms', ds'⟩ := y
  unfold keyOf numsOf at h
  simp only [List.cons_append, List.nil_append, List.cons.injEq] at h
  obtain ⟨rfl, hp, hm, hd, h⟩ := h
  have hm : ms.length = ms'.length := by omega
  have hd : ds.length = ds'.length := by omega
  obtain ⟨e1, e2⟩ := List.append_inj h (by rw [flat_len (s := 3) (fun _ => rfl), flat_len (s := 3) (fun _ => rfl), hm])
  have e3 := flat_inj (s := 3) (fun _ => rfl) (fun a b e => by cases a; cases b; simp [mx3] at e; simp [e]) hm e1
  have e4 := flat_inj (s := 3) (fun _ => rfl) (fun a b e => by cases a; cases b; simp [dx3] at e; simp [e]) hd e2
  rw [e3, e4, show p = p' by omega]
theorem ordF_refl (x : Fl) : ordF x x = 0 := cmpL_refl _
theorem ordF_eq {x y : Fl} : ordF x y = 0 ↔ x = y := ⟨fun h => keyOf_inj (cmpL_eq h), fun h => h ▸ ordF_refl x⟩
theorem ordF_neg (x y : Fl) : ordF y x = -ordF x y := cmpL_neg _ _
theorem ordF_trans {x y z : Fl} (h1 : ordF x y < 0) (h2 : ordF y z < 0) : ordF x z < 0 := cmpL_trans h1 h2
theorem ordF_le {x y z : Fl} (h1 : ordF x y ≤ 0) (h2 : ordF y z ≤ 0) : ordF x z ≤ 0 := by
  rcases Int.lt_or_eq_of_le h1 with h1 | h1
  · rcases Int.lt_or_eq_of_le h2 with h2 | h2
    · exact Int.le_of_lt (ordF_trans h1 h2)
    · rw [← ordF_eq.1 h2]; omega
  · rw [ordF_eq.1 h1]; exact h2
theorem sorted_uniq : ∀ {l m : List Fl}, l.Perm m → l.Pairwise (fun x y => ordF x y ≤ 0) → m.Pairwise (fun x y => ordF x y ≤ 0) → l = m
  | [], m, h, _, _ => (List.Perm.nil_eq h)
  | x :: l, [], h, _, _ => by simpa using h.symm.nil_eq
  | x :: l, y :: m, h, h1, h2 => by
    obtain ⟨h3, h4⟩ := List.pairwise_cons.1 h1
    obtain ⟨h5, h6⟩ := List.pairwise_cons.1 h2
    have e : x = y := by
      rcases List.mem_cons.1 (h.mem_iff.1 (List.mem_cons_self)) with e | hx
      · exact e
      · rcases List.mem_cons.1 (h.mem_iff.2 (List.mem_cons_self)) with e | hy
        · exact e.symm
        · have a1 := h5 x hx
          have a2 := h3 y hy
          have a3 := ordF_neg x y
          exact ordF_eq.1 (by omega)
    subst e
    rw [sorted_uniq (List.Perm.cons_inv h) h4 h6]
def StrictF (l : List Fl) : Prop := l.Pairwise fun x y => ordF x y < 0
theorem strict_uniq : ∀ {l m : List Fl}, (∀ x, x ∈ l ↔ x ∈ m) → StrictF l → StrictF m → l = m
  | [], [], _, _, _ => rfl
  | [], y :: m, h, _, _ => by have := (h y).2 (by simp); simp at this
  | x :: l, [], h, _, _ => by have := (h x).1 (by simp); simp at this
  | x :: l, y :: m, h, h1, h2 => by
    obtain ⟨h3, h4⟩ := List.pairwise_cons.1 h1
    obtain ⟨h5, h6⟩ := List.pairwise_cons.1 h2
    have e : x = y := by
      rcases List.mem_cons.1 ((h x).1 (by simp)) with e | hx
      · exact e
      · rcases List.mem_cons.1 ((h y).2 (by simp)) with e | hy
        · exact e.symm
        · have a1 := h5 x hx
          have a2 := h3 y hy
          have a3 := ordF_neg x y
          omega
    subst e
    rw [strict_uniq (l := l) (m := m) (fun z => ?_) h4 h6]
    constructor
    · intro hz
      rcases List.mem_cons.1 ((h z).1 (by simp [hz])) with rfl | h7
      · have := h3 z hz
        rw [ordF_refl] at this
        omega
      · exact h7
    · intro hz
      rcases List.mem_cons.1 ((h z).2 (by simp [hz])) with rfl | h7
      · have := h5 z hz
        rw [ordF_refl] at this
        omega
      · exact h7
def sortF (l : List Fl) : List Fl := l.mergeSort (fun x y => decide (ordF x y ≤ 0))
theorem sortF_perm (l : List Fl) : (sortF l).Perm l := List.mergeSort_perm _ _
theorem sortF_sorted (l : List Fl) : (sortF l).Pairwise fun x y => ordF x y ≤ 0 := by
  have := List.pairwise_mergeSort (le := fun x y : Fl => decide (ordF x y ≤ 0)) (fun x y z h1 h2 => by
    simp only [decide_eq_true_eq] at *
    exact ordF_le h1 h2) (fun x y => by
    have := ordF_neg x y
    simp only [Bool.or_eq_true, decide_eq_true_eq]
    omega) l
  exact this.imp (fun h => by simpa using h)
def compA : Fl → List Fl → List Fl
  | _, [] => []
  | p, x :: l => if ordF x p = 0 then compA x l else x :: compA x l
def compF : List Fl → List Fl
  | [] => []
  | x :: l => x :: compA x l
theorem compA_mem : ∀ {l : List Fl} {p x : Fl}, x ∈ p :: compA p l ↔ x ∈ p :: l
  | [], p, x => by simp [compA]
  | y :: l, p, x => by
    have ih := compA_mem (l := l) (p := y) (x := x)
    unfold compA
    split
    · rename_i h
      obtain rfl := ordF_eq.1 h
      rw [ih]
      simp
    · simp only [List.mem_cons] at ih ⊢
      rw [ih]
theorem compA_strict : ∀ {l : List Fl} {p : Fl}, (p :: l).Pairwise (fun x y => ordF x y ≤ 0) → StrictF (p :: compA p l)
  | [], p, _ => List.pairwise_singleton _ _
  | y :: l, p, h => by
    obtain ⟨h1, h2⟩ := List.pairwise_cons.1 h
    have ih := compA_strict h2
    unfold compA
    split
    · rename_i e
      obtain rfl := ordF_eq.1 e
      exact ih
    · rename_i e
      refine List.pairwise_cons.2 ⟨fun z hz => ?_, ih⟩
      have a1 := h1 y (by simp)
      have a2 := ordF_neg p y
      have a3 : ordF p y < 0 := by omega
      rcases List.mem_cons.1 hz with rfl | hz
      · exact a3
      · exact ordF_trans a3 ((List.pairwise_cons.1 ih).1 z hz)
theorem compF_mem {l : List Fl} {x : Fl} : x ∈ compF l ↔ x ∈ l := by
  cases l with
  | nil => rfl
  | cons y l => exact compA_mem
theorem compF_strict {l : List Fl} (h : l.Pairwise (fun x y => ordF x y ≤ 0)) : StrictF (compF l) := by
  cases l with
  | nil => exact .nil
  | cons y l => exact compA_strict h
def sortedF (l : List Fl) : List Fl := compF (sortF l)
theorem sortedF_mem {l : List Fl} {x : Fl} : x ∈ sortedF l ↔ x ∈ l := by rw [sortedF, compF_mem, (sortF_perm l).mem_iff]
theorem sortedF_strict (l : List Fl) : StrictF (sortedF l) := compF_strict (sortF_sorted l)
theorem sortedF_is {l m : List Fl} (h : ∀ x, x ∈ m ↔ x ∈ l) (hs : StrictF m) : m = sortedF l := strict_uniq (fun x => (h x).trans sortedF_mem.symm) hs (sortedF_strict l)
theorem sortedF_id {l : List Fl} (h : StrictF l) : sortedF l = l := (sortedF_is (fun _ => Iff.rfl) h).symm
def hasF (b : List Fl) (x : Fl) : Bool := b.any fun g => ordF x g == 0
theorem hasF_iff {b : List Fl} {x : Fl} : hasF b x = true ↔ x ∈ b := by
  simp only [hasF, List.any_eq_true, beq_iff_eq]
  exact ⟨fun ⟨g, hg, e⟩ => ordF_eq.1 e ▸ hg, fun h => ⟨x, h, ordF_refl x⟩⟩
theorem StrictF.filter {l : List Fl} (h : StrictF l) (p : Fl → Bool) : StrictF (l.filter p) := h.sublist (List.filter_sublist)
def leftF (a b : List Fl) : List Fl := (sortedF a).filter fun x => !hasF b x
theorem leftF_mem {a b : List Fl} {x : Fl} : x ∈ leftF a b ↔ x ∈ a ∧ x ∉ b := by
  rw [leftF, List.mem_filter, sortedF_mem]
  have := @hasF_iff b x
  cases h : hasF b x <;> simp [h] at this ⊢ <;> simp [this]
def patchF (l come gone : List Fl) : List Fl := sortedF (leftF l gone ++ come)
theorem patch_lead {a b : List Fl} (_ha : StrictF a) (hb : StrictF b) : patchF a (leftF b a) (leftF a b) = b := by
  refine (sortedF_is (fun x => ?_) hb).symm
  rw [List.mem_append, leftF_mem, leftF_mem, leftF_mem]
  by_cases h1 : x ∈ a <;> by_cases h2 : x ∈ b <;> simp [h1, h2]
theorem filter_len {α : Type} (p : α → Bool) : ∀ l : List α, (l.filter p).length + (l.filter fun x => !p x).length = l.length
  | [] => rfl
  | x :: l => by
    have := filter_len p l
    cases h : p x <;> simp [h] <;> omega
theorem left_len {a b : List Fl} (ha : StrictF a) (hb : StrictF b) : a.length + (leftF b a).length = b.length + (leftF a b).length := by
  have h1 := filter_len (hasF b) a
  have h2 := filter_len (hasF a) b
  have e1 : leftF a b = a.filter fun x => !hasF b x := by rw [leftF, sortedF_id ha]
  have e2 : leftF b a = b.filter fun x => !hasF a x := by rw [leftF, sortedF_id hb]
  have e3 : a.filter (hasF b) = b.filter (hasF a) := strict_uniq (fun x => by
    rw [List.mem_filter, List.mem_filter, hasF_iff, hasF_iff]
    exact And.comm) (ha.filter _) (hb.filter _)
  rw [e1, e2]
  rw [e3] at h1
  omega
end Go.Proofs.YtmidechdlbcepaaGreat

namespace Go.Proofs.YtmidechdlbcepaaGreat
open Go.RowKit

def getP (p : Pk) : Nat → Int
  | 0 => p.f0
  | 1 => p.f1
  | 2 => p.f2
  | 3 => p.f3
  | 4 => p.f4
  | 5 => p.f5
  | 6 => p.f6
  | 7 => p.f7
  | 8 => p.f8
  | _ => p.f9
def setP (p : Pk) (i : Nat) (v : Int) : Pk :=
  match i with
  | 0 => { p with f0 := v }
  | 1 => { p with f1 := v }
  | 2 => { p with f2 := v }
  | 3 => { p with f3 := v }
  | 4 => { p with f4 := v }
  | 5 => { p with f5 := v }
  | 6 => { p with f6 := v }
  | 7 => { p with f7 := v }
  | 8 => { p with f8 := v }
  | _ => { p with f9 := v }
def Pk.Wd (p : Pk) : Prop := ∀ i, i < 10 → word (getP p i) = true
theorem setP_wd {p : Pk} (h : p.Wd) (i : Nat) {v : Int} (hv : word v = true) : (setP p i v).Wd := by
  intro j hj
  have hs : getP (setP p i v) j = v ∨ getP (setP p i v) j = getP p j := by
    unfold setP
    split <;> (unfold getP; split <;> simp)
  rcases hs with e | e <;> rw [e]
  · exact hv
  · exact h j hj
def fitsB (p : Pk) (f : Fl) : Bool := f.ms.all fun m => maskd (getP p m.field.toNat) m.mask == m.value
def prioAt (l : List Fl) (i : Int) : Int := match l[i.toNat]? with
  | some f => f.prio
  | none => 0
def bst (l : List Fl) (q : Fl → Bool) : Nat → Int
  | 0 => -1
  | k + 1 => match l[k]? with
    | some f => if (q f && (decide (bst l q k < 0) || decide (f.prio > prioAt l (bst l q k)))) = true then k else bst l q k
    | none => bst l q k
def IsB (l : List Fl) (q : Fl → Bool) (a b : Nat) (i : Int) : Prop :=
  (i = -1 ∧ ∀ j f, a ≤ j → j < b → l[j]? = some f → q f = false) ∨
  (∃ k g, i = ((k : Nat) : Int) ∧ a ≤ k ∧ k < b ∧ l[k]? = some g ∧ q g = true ∧ ∀ j f, a ≤ j → j < b → l[j]? = some f → q f = true → f.prio ≤ g.prio ∧ (j < k → f.prio < g.prio))
theorem prioAt_nat {l : List Fl} {k : Nat} {g : Fl} (h : l[k]? = some g) : prioAt l (k : Int) = g.prio := by
  unfold prioAt
  rw [Int.toNat_natCast, h]
theorem bst_is (l : List Fl) (q : Fl → Bool) : ∀ k, k ≤ l.length → IsB l q 0 k (bst l q k)
  | 0, _ => .inl ⟨rfl, fun j f _ h => by omega⟩
  | k + 1, hk => by
    have ih := bst_is l q k (by omega)
    obtain ⟨f, hf⟩ : ∃ f, l[k]? = some f := ⟨_, List.getElem?_eq_getElem (by omega)⟩
    simp only [bst, hf]
    split
    · rename_i hc
      simp only [Bool.and_eq_true, Bool.or_eq_true, decide_eq_true_eq] at hc
      refine .inr ⟨k, f, rfl, by omega, by omega, hf, hc.1, fun j g _ hj hg hq => ?_⟩
      rcases Nat.lt_or_ge j k with hlt | hge
      · rcases ih with ⟨_, h2⟩ | ⟨m, x, h1, _, hm, hx, hqx, h2⟩
        · have := h2 j g (by omega) hlt hg
          rw [hq] at this
          cases this
        · have h3 := h2 j g (by omega) hlt hg hq
          rcases hc.2 with h4 | h4
          · omega
          · rw [h1, prioAt_nat hx] at h4
            omega
      · obtain rfl : j = k := by omega
        rw [hf] at hg
        obtain rfl := Option.some.inj hg
        exact ⟨Int.le_refl _, fun h => by omega⟩
    · rename_i hc
      rcases ih with ⟨h1, h2⟩ | ⟨m, x, h1, h3, hm, hx, hqx, h2⟩
      · refine .inl ⟨h1, fun j g _ hj hg => ?_⟩
        rcases Nat.lt_or_ge j k with hlt | hge
        · exact h2 j g (by omega) hlt hg
        · obtain rfl : j = k := by omega
          rw [hf] at hg
          obtain rfl := Option.some.inj hg
          cases hq : q f with
          | false => rfl
          | true => exfalso; apply hc; simp [hq, h1]
      · refine .inr ⟨m, x, h1, h3, by omega, hx, hqx, fun j g _ hj hg hq => ?_⟩
        rcases Nat.lt_or_ge j k with hlt | hge
        · exact h2 j g (by omega) hlt hg hq
        · obtain rfl : j = k := by omega
          rw [hf] at hg
          obtain rfl := Option.some.inj hg
          refine ⟨?_, fun h => by omega⟩
          rw [hq, h1, prioAt_nat hx] at hc
          simp at hc
          omega
structure Snt where
  kind : Int
  n : Int
  p : Pk
def encSnt (s : Snt) : List FV := [.int .i64 s.kind, .int .i64 s.n] ++ encPk s.p
theorem encSnt_len (s : Snt) : (encSnt s).length = 13 := rfl
structure Rs where
  p : Pk
  table : Int
  out : List Snt
def stepD (s : Rs) (d : Dx) : Rs :=
  if d.kind = 1 then { s with p := setP s.p d.a.toNat d.n }
  else if d.kind = 2 then { s with p := setP s.p d.a.toNat (getP s.p d.n.toNat) }
  else if d.kind = 3 then { s with p := setP s.p d.a.toNat (if 0 > getP s.p d.a.toNat - 1 then 0 else getP s.p d.a.toNat - 1) }
  else if d.kind = 4 then { s with table := d.n }
  else { s with out := s.out ++ [⟨d.kind, d.n, s.p⟩] }
def bestOf (l : List Fl) (t : Int) (p : Pk) : Int := bst l (fun f => f.table == t && fitsB p f) l.length
def execT (l : List Fl) (s : Rs) : Rs := match l[(bestOf l s.table s.p).toNat]? with
  | some f => if bestOf l s.table s.p < 0 then { s with table := -1 } else f.ds.foldl stepD { s with table := -1 }
  | none => { s with table := -1 }
def runN (l : List Fl) : Nat → Rs → Rs
  | 0, s => s
  | n + 1, s => runN l n (if s.table = 7 - n then execT l s else s)
theorem runN_done (l : List Fl) : ∀ (n : Nat) (s : Rs), s.table < 0 → n ≤ 8 → runN l n s = s
  | 0, _, _, _ => rfl
  | n + 1, s, h, hn => by rw [runN, if_neg (by omega), runN_done l n s h (by omega)]
theorem runN_skip (l : List Fl) (k : Nat) : ∀ (n : Nat) (s : Rs), s.table = 7 - (k : Int) → k ≤ n → runN l (n + 1) s = runN l (k + 1) s
  | n, s, h, hk => by
    rcases Nat.lt_or_ge k n with hlt | hge
    · obtain ⟨m, rfl⟩ : ∃ m, n = m + 1 := ⟨n - 1, by omega⟩
      rw [runN, if_neg (by omega), runN_skip l k m s h (by omega)]
    · obtain rfl : n = k := by omega
      rfl
def ranOf (l : List Fl) (p : Pk) : List Snt := (runN l 8 ⟨p, 0, []⟩).out
end Go.Proofs.YtmidechdlbcepaaGreat

namespace Go.Proofs.YtmidechdlbcepaaGreat
open Go.RowKit

theorem flsFault_mem : ∀ {l : List Fl} {f : Fl}, flsFault l = 0 → f ∈ l → flFault f = 0
  | g :: l, f, h, hf => by
    unfold flsFault at h
    split at h
    · rename_i h0
      rcases List.mem_cons.1 hf with rfl | hf
      · exact h0
      · exact flsFault_mem h hf
    · rename_i h0
      exact absurd h h0
structure FlMay (f : Fl) : Prop where
  ms : f.ms.length ≤ 12
  ds : f.ds.length ≤ 100
  table : 0 ≤ f.table ∧ f.table ≤ 7
  mok : f.ms.all mxOk = true
  dok : dxOk f.table f.ds = true
theorem flMay {f : Fl} (h : flFault f = 0) : FlMay f := by
  unfold flFault at h
  split at h
  · omega
  · split at h
    · omega
    · split at h
      · omega
      · split at h
        · omega
        · rename_i h1 h2 h3 h4
          have h5 : inR f.table 0 7 = true := by
            cases e : inR f.table 0 7 with
            | true => rfl
            | false => exact absurd (Or.inl e) h2
          exact ⟨by omega, by omega, inR_iff.1 h5, by simpa using h3, by simpa using h4⟩
theorem flowsMay {l : List Fl} (h : flowsFault l = 0) : l.length ≤ 5000 ∧ ∀ f ∈ l, FlMay f := by
  unfold flowsFault at h
  split at h
  · omega
  · exact ⟨by omega, fun f hf => flMay (flsFault_mem h hf)⟩
theorem dxOk_mem {t : Int} : ∀ {l : List Dx} {d : Dx}, dxOk t l = true → d ∈ l → ∃ b, dxMay d t b = true
  | e :: l, d, h, hd => by
    simp only [dxOk, Bool.and_eq_true] at h
    rcases List.mem_cons.1 hd with rfl | hd
    · exact ⟨_, h.1⟩
    · exact dxOk_mem h.2 hd
theorem dxMay_use {d : Dx} {t : Int} {b : Bool} (h : dxMay d t b = true) : (d.kind = 1 → (0 ≤ d.a ∧ d.a ≤ 9) ∧ word d.n = true) ∧ (d.kind = 2 → (0 ≤ d.a ∧ d.a ≤ 9) ∧ (0 ≤ d.n ∧ d.n ≤ 9)) ∧ (d.kind = 3 → 0 ≤ d.a ∧ d.a ≤ 9) ∧ (d.kind = 4 → t < d.n ∧ d.n ≤ 7) ∧ (d.kind = 1 ∨ d.kind = 2 ∨ d.kind = 3 ∨ d.kind = 4 ∨ d.kind = 5 ∨ d.kind = 6) := by
  unfold dxMay at h
  repeat' split at h
  all_goals try simp only [Bool.and_eq_true, inR_iff, decide_eq_true_eq] at h
  all_goals first
    | (refine ⟨fun e => ?_, fun e => ?_, fun e => ?_, fun e => ?_, ?_⟩ <;> first | omega | (exfalso; omega) | exact ⟨h.1, h.2⟩ | exact h.1)
    | cases h
end Go.Proofs.YtmidechdlbcepaaGreat

namespace Go.Proofs.YtmidechdlbcepaaGreat
open Go.RowKit

section
variable {P : Program} {T : Tbl} {n i : Nat} {ops : Array Oper} {l : List Oper} {fps : List Fp} {K : St → Prop} {t : List (Nat × AV)} {H H' : Own} {o : Oper} {d : Nat} {r : AV}
theorem setC_whole : ∀ {cs us : List AV}, us.length = cs.length → setC cs 0 us = some us
  | [], [], _ => rfl
  | _ :: cs, u :: us, h => by simp only [setC]; rw [setC_whole (by simpa using h)]
  | [], _ :: _, h => by cases h
  | _ :: _, [], h => by cases h
theorem Ops.stoW {ty g bt : Nat} {x y : Operand} {c0 us : List AV} (hg : o.guard = none) (hd : o.dst = none) (hop : o.op = .store ty x y) (hx : evO t x = some (.optr g 0)) (hob : lk H g = some (.box bt c0)) (hy : (evO t y).bind cells1 = some us) (h1 : onesB us = true) (hs : sizeB T ty us.length = true) (hlen : Nat.beq us.length c0.length = true) (hr : Repl g (.box bt c0) (.box bt us) H H')
    (hK : OpsL P T n ops (i + 1) l fps K ⟨t, H'⟩) : OpsL P T n ops i (o :: l) (⟨[g], [g], []⟩ :: fps) K ⟨t, H⟩ := by
  refine ⟨_, _, rfl, fun ho => ?_⟩
  cases hye : evO t y with
  | none => rw [hye] at hy; cases hy
  | some a =>
    rw [hye] at hy
    exact ⟨_, .sto ho hg hd hop (evO_ev (st := ⟨t, H⟩) hx) hob (by rw [evO_ev (st := ⟨t, H⟩) hye]; exact hy) h1 hs (setC_whole (Nat.eq_of_beq_eq_true hlen)) hr.lk.2, hK.out⟩
theorem Ops.stoB {ty g off bt : Nat} {x y : Operand} {c0 us cs : List AV} (hg : o.guard = none) (hd : o.dst = none) (hop : o.op = .store ty x y) (hx : evO t x = some (.optr g off)) (hob : lk H g = some (.box bt c0)) (hy : (evO t y).bind cells1 = some us) (h1 : onesB us = true) (hs : sizeB T ty us.length = true) (hset : setC c0 off us = some cs) (hr : Repl g (.box bt c0) (.box bt cs) H H')
    (hK : OpsL P T n ops (i + 1) l fps K ⟨t, H'⟩) : OpsL P T n ops i (o :: l) (⟨[g], [g], []⟩ :: fps) K ⟨t, H⟩ := by
  refine ⟨_, _, rfl, fun ho => ?_⟩
  cases hye : evO t y with
  | none => rw [hye] at hy; cases hy
  | some a =>
    rw [hye] at hy
    exact ⟨_, .sto ho hg hd hop (evO_ev (st := ⟨t, H⟩) hx) hob (by rw [evO_ev (st := ⟨t, H⟩) hye]; exact hy) h1 hs hset hr.lk.2, hK.out⟩
theorem Ops.stoR {ty g off e s m : Nat} {x y : Operand} {c0 us cs : List AV} (hg : o.guard = none) (hd : o.dst = none) (hop : o.op = .store ty x y) (hx : evO t x = some (.optr g off)) (hob : lk H g = some (.row e s m c0)) (hy : (evO t y).bind cells1 = some us) (h1 : onesB us = true) (hs : sizeB T ty us.length = true) (hset : setC c0 off us = some cs) (hr : Repl g (.row e s m c0) (.row e s m cs) H H')
    (hK : OpsL P T n ops (i + 1) l fps K ⟨t, H'⟩) : OpsL P T n ops i (o :: l) (⟨[g], [g], []⟩ :: fps) K ⟨t, H⟩ := by
  refine ⟨_, _, rfl, fun ho => ?_⟩
  cases hye : evO t y with
  | none => rw [hye] at hy; cases hy
  | some a =>
    rw [hye] at hy
    exact ⟨_, .sto ho hg hd hop (evO_ev (st := ⟨t, H⟩) hx) hob (by rw [evO_ev (st := ⟨t, H⟩) hye]; exact hy) h1 hs hset hr.lk.2, hK.out⟩
theorem Ops.app {ty e s b k m : Nat} {x y : Operand} {ax ay : AV} {cs news : List AV} (hg : o.guard = none) (hd : o.dst = some d) (hn : Nat.blt d n = true) (hop : o.op = .call { callee := .builtin .append, args := #[x, y], argTypes := #[ty, ty] }) (hty : lk T.sli ty = some (e, s, b)) (hx : evO t x = some ax) (hy : evO t y = some ay) (hB : ABase H e s ax k cs H') (hS : ASrc H s ay m news)
    (hb : Nat.blt 0 b = true) (hby : (k + m) * b ≤ 140737488355328) (hf : freshB ⟨t, H⟩ [(d, .row e s (k + m) (cs ++ news))] = true) (hK : OpsL P T n ops (i + 1) l fps K ⟨(d, .osl d) :: t, (d, .row e s (k + m) (cs ++ news)) :: H'⟩) : OpsL P T n ops i (o :: l) (⟨baseN ax ++ baseN ay, d :: baseN ax, [d]⟩ :: fps) K ⟨t, H⟩ :=
  ⟨_, _, rfl, fun ho => ⟨_, by
    have e1 := evO_ev (st := ⟨t, H⟩) hx
    have e2 := evO_ev (st := ⟨t, H⟩) hy
    have := Step.app (P := P) (T := T) (n := n) (st := ⟨t, H⟩) (d := d) (k := k) (m := m) (cs := cs) (news := news) ho hg hd (by simpa [Nat.blt_eq] using hn) hop hty (by rw [e1]; exact hB) (by rw [e2]; exact hS) (by
      have hb' : 0 < b := by simpa [Nat.blt_eq] using hb
      have := Nat.le_mul_of_pos_right (k + m) hb'
      unfold maxLen
      omega) hby (freshB_mem hf)
    rw [e1, e2] at this
    exact this, hK.out⟩⟩
end
theorem rmv_q {g : Nat} {H H' : Own} (h : rmv g H = H') : RmvP g H H' := h ▸ rmv_p g H
theorem AV.Le.of_eq {a b : AV} (h : a = b) : AV.Le a b := h ▸ .refl a
theorem Fun.body {P : Program} {T : Tbl} {f : FuncId} {fn : Func} {c : Code} {n : Nat} {args : List AV} {r : AV} (hT : T.Ok P) (hf : P.funcs[f]? = some fn) (hb : fn.body = some c) (hen : enterB P f = true) (hn : fn.ntmps = n) (hargs : Nat.ble args.length n = true) {rvs : List ResultVar} (hrv : fn.results.toList = rvs)
    (h : WP P n c (Post T rvs fun r' _ => r' = r) ⟨argT 0 args, []⟩) : Fun P f args r := by
  have ht := Triple.body (Q := fun r' _ => r' = r) hT hf hb hen hn hargs hrv h
  refine ⟨ht.1, fun σ Z w vs hI hr => (ht.2 σ Z w vs hI hr).mono ?_⟩
  rintro e w' ⟨v, r', own', σ', Z', rfl, rfl, hI', hr'⟩
  exact ⟨v, r', [], σ', Z', rfl, ⟨rfl, rfl⟩, hI'.le (fun g ob h => by simp [lk] at h), hr'⟩
theorem Post.fun {T : Tbl} {rvs : List ResultVar} {r : AV} {e : Exit} {s : St} {rs : List AV} (he : e = .ret ∨ e = .normal) (h1 : retL T s rvs = some rs) (h2 : retA rs = r) : Post T rvs (fun r' _ => r' = r) e s := by
  rcases he with rfl | rfl <;> exact ⟨_, .refl _, rs, h1, h2⟩
theorem Post.f1 {T : Tbl} {rvs : List ResultVar} {f f' : FV} {e : Exit} {s : St} (he : e = .ret ∨ e = .normal) (h1 : retL T s rvs = some [.fv f]) (h2 : f = f') : Post T rvs (fun r' _ => r' = .fv f') e s := by
  subst h2
  rcases he with rfl | rfl <;> exact ⟨_, .refl _, _, h1, rfl⟩
end Go.Proofs.YtmidechdlbcepaaGreat
