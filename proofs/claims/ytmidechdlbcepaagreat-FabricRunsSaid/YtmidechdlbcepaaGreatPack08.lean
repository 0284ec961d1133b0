import Derived.Test.YtmidechdlbcepaaGreatPack04
import Derived.ProofKit
import Derived.OpenShut
import Derived.Deep.Slices
import Derived.JoinedCond
import Derived.SizedLaws
set_option linter.unusedSimpArgs false
set_option linter.unusedVariables false
namespace Go.Proofs.YtmidechdlbcepaaGreat
open Go.ChangeShapes Go.WideShapes Go.ChangeAt Go.RowKit Go.Deep
def I64 (n : Int) : Prop := -9223372036854775808 ≤ n ∧ n ≤ 9223372036854775807

inductive Leaf where
  | int
  | byte
  | bool
  | str
  | slice (t : TypeId)

def leavesFs (go : TypeId → Option (List Leaf)) : List Field → Nat → Option (List Leaf)
  | [], _ => some []
  | f :: fs, off => if f.offset = off then (go f.type).bind fun l => (leavesFs go fs (off + l.length)).map (l ++ ·) else none

def leaves (P : Program) : Nat → TypeId → Option (List Leaf)
  | 0, _ => none
  | n + 1, t =>
    match P.underlying t with
    | some (.int .i64) => some [.int]
    | some (.int .u8) => some [.byte]
    | some .bool => some [.bool]
    | some .string => some [.str]
    | some (.slice _) => some [.slice t]
    | some (.struct fs) => (leavesFs (leaves P n) fs.toList 0).bind fun l => if l.length = P.cellsOf t then some l else none
    | some (.array k e) => (leaves P n e).bind fun l => if l.length = P.cellsOf e ∧ k * l.length = P.cellsOf t then some (List.replicate k l).flatten else none
    | _ => none

structure Closed {H : Type} (P : Program) (Cl : TypeId → DataW H → Prop) : Prop where
  ofStruct : ∀ (t : TypeId) (fs : Array Field) (parts : List (DataW H)), P.underlying t = some (.struct fs) → Cl t (.agg parts) → ∀ (i : Nat) (f : Field) (d : DataW H), fs[i]? = some f → parts[i]? = some d → Cl f.type d
  ofArray : ∀ (t : TypeId) (k : Nat) (e : TypeId) (parts : List (DataW H)), P.underlying t = some (.array k e) → Cl t (.agg parts) → ∀ d ∈ parts, Cl e d
  ofSlice : ∀ (t : TypeId) (e : TypeId) (el sp : List (DataW H)), P.underlying t = some (.slice e) → Cl t (.slice el sp) → ∀ d ∈ el, Cl e d
theorem closed_true {H : Type} (P : Program) : Closed (H := H) P (fun _ _ => True) := ⟨fun _ _ _ _ _ _ _ _ _ _ => trivial, fun _ _ _ _ _ _ _ _ => trivial, fun _ _ _ _ _ _ _ _ => trivial⟩

section
variable {H : Type} (enc : TypeId × Value → H) (P : Program) (w : World) (base : Nat) (spare : Nat → Bool) (held : Bool) (Cl : TypeId → DataW H → Prop)

def LeafOk : Leaf → Value → Prop
  | .int, v => ∃ n, v = .int .i64 n ∧ I64 n
  | .byte, v => ∃ n, v = .int .u8 n ∧ 0 ≤ n ∧ n ≤ 255
  | .bool, v => ∃ b, v = .bool b
  | .str, v => ∃ s : ByteArray, v = .string s ∧ s.size ≤ maxLen ∧ ∃ t, Cl t (.lit (.string s.data.toList))
  | .slice t, v => ∃ m y, DataW.trod enc P w base spare held m t [v] = some y ∧ Cl t y.1

def AllOk : List Leaf → List Value → Prop
  | [], [] => True
  | l :: ls, v :: vs => LeafOk enc P w base spare held Cl l v ∧ AllOk ls vs
  | _, _ => False

variable {enc P w base spare held Cl}
theorem AllOk.length {ls : List Leaf} : ∀ {vs : List Value}, AllOk enc P w base spare held Cl ls vs → vs.length = ls.length := by
  induction ls with
  | nil => intro vs h; cases vs with
    | nil => rfl
    | cons => exact h.elim
  | cons l ls ih => intro vs h; cases vs with
    | nil => exact h.elim
    | cons v vs => simp [ih h.2]
theorem AllOk.append {ls ms : List Leaf} : ∀ {vs us : List Value}, AllOk enc P w base spare held Cl ls vs → AllOk enc P w base spare held Cl ms us → AllOk enc P w base spare held Cl (ls ++ ms) (vs ++ us) := by
  induction ls with
  | nil => intro vs us h h'; cases vs with
    | nil => exact h'
    | cons => exact h.elim
  | cons l ls ih => intro vs us h h'; cases vs with
    | nil => exact h.elim
    | cons v vs => exact ⟨h.1, ih h.2 h'⟩

theorem take_len_take {α : Type} (n : Nat) (xs : List α) : xs.take (xs.take n).length = xs.take n := by
  rw [List.length_take]
  rcases Nat.le_total n xs.length with h | h
  · rw [Nat.min_eq_left h]
  · rw [Nat.min_eq_right h, List.take_of_length_le (Nat.le_refl _), List.take_of_length_le h]

theorem leavesFs_ok {go : TypeId → Option (List Leaf)} {n : Nat} {cs : List Value} {xs : List (DataW H × List MemPlace)}
    (hgo : ∀ (t : TypeId) (l : List Leaf) (us : List Value) (x : DataW H × List MemPlace), go t = some l → DataW.trod enc P w base spare held n t us = some x → Cl t x.1 → AllOk enc P w base spare held Cl l us) :
    ∀ (fs : List Field) (off i0 : Nat) (ls : List Leaf), (∀ (i : Nat) (f : Field), fs[i]? = some f → DataW.trod enc P w base spare held n f.type ((cs.drop f.offset).take (P.cellsOf f.type)) = xs[i0 + i]?) →
      (∀ (i : Nat) (f : Field) (x : DataW H × List MemPlace), fs[i]? = some f → xs[i0 + i]? = some x → Cl f.type x.1) → i0 + fs.length = xs.length → leavesFs go fs off = some ls → cs.length = off + ls.length → AllOk enc P w base spare held Cl ls (cs.drop off)
  | [], off, i0, ls, hf, _, hx, hl, hlen => by
    simp [leavesFs] at hl
    subst hl
    rw [List.drop_of_length_le (by simp at hlen; omega)]
    trivial
  | f :: fs, off, i0, ls, hf, hcl, hx, hl, hlen => by
    simp only [leavesFs] at hl
    split at hl
    · rename_i ho
      simp only [Option.bind_eq_some_iff, Option.map_eq_some_iff] at hl
      obtain ⟨l, hg, l', hl', rfl⟩ := hl
      have h0 := hf 0 f rfl
      simp only [List.length_cons] at hx
      have hxi : xs[i0 + 0]? = some (xs[i0]'(by omega)) := List.getElem?_eq_getElem (by omega)
      rw [hxi, ho] at h0
      have ha := hgo _ _ _ _ hg h0 (hcl 0 f _ rfl hxi)
      have hal := ha.length
      have htake : (cs.drop off).take (P.cellsOf f.type) = (cs.drop off).take l.length := by
        rw [← hal]
        exact (take_len_take _ _).symm
      rw [htake] at ha
      rw [List.length_append] at hlen
      have hrest := leavesFs_ok hgo fs (off + l.length) (i0 + 1) l' (fun i g hg' => by
        have := hf (i + 1) g (by simpa using hg')
        rw [this]
        congr 1
        omega) (fun i g x hg' hx' => hcl (i + 1) g x (by simpa using hg') (by rw [← hx']; congr 1; omega)) (by omega) hl' (by omega)
      have hsplit : cs.drop off = (cs.drop off).take l.length ++ cs.drop (off + l.length) := by
        rw [← List.drop_drop, List.take_append_drop]
      rw [hsplit]
      exact ha.append hrest
    · cases hl

theorem leaves_ok (hcl : Closed P Cl) : ∀ (n : Nat) (t : TypeId) (l : List Leaf) (m : Nat) (cs : List Value) (x : DataW H × List MemPlace), leaves P n t = some l → DataW.trod enc P w base spare held m t cs = some x → Cl t x.1 → AllOk enc P w base spare held Cl l cs
  | 0, _, _, _, _, _, h, _, _ => by cases h
  | n + 1, t, l, m, cs, x, h, ht, hc => by
    simp only [leaves] at h
    split at h
    · rename_i hu
      cases h
      obtain ⟨a, rfl, _, wf⟩ := DataW.trod_int hu ht
      simp [Lit.wf, IntKind.min, IntKind.max, IntKind.signed, IntKind.bits] at wf
      exact ⟨⟨a, rfl, by unfold I64; omega⟩, trivial⟩
    · rename_i hu
      cases h
      obtain ⟨a, rfl, _, wf⟩ := DataW.trod_int hu ht
      simp [Lit.wf, IntKind.min, IntKind.max, IntKind.signed, IntKind.bits] at wf
      exact ⟨⟨a, rfl, by omega, by omega⟩, trivial⟩
    · rename_i hu
      cases h
      obtain ⟨a, rfl, _⟩ := DataW.trod_bool hu ht
      exact ⟨⟨a, rfl⟩, trivial⟩
    · rename_i hu
      cases h
      obtain ⟨a, rfl, rfl, hs⟩ := DataW.trod_string hu ht
      exact ⟨⟨a, rfl, hs, t, hc⟩, trivial⟩
    · rename_i e hu
      cases h
      rcases DataW.trod_slice hu ht with ⟨rfl, _⟩ | ⟨a, len, cap, _, _, _, _, rfl, _⟩
      · exact ⟨⟨m, x, ht, hc⟩, trivial⟩
      · exact ⟨⟨m, x, ht, hc⟩, trivial⟩
    · rename_i fs hu
      simp only [Option.bind_eq_some_iff] at h
      obtain ⟨l', hl', h⟩ := h
      split at h
      · rename_i hlen
        obtain rfl := Option.some.inj h
        obtain ⟨xs, k, _, hxe, hcsl, hxl, hf⟩ := DataW.trod_struct hu ht
        rw [hxe] at hc
        have := leavesFs_ok (go := leaves P n) (n := k) (cs := cs) (xs := xs) (fun t l us x hg htr hc' => leaves_ok hcl n t l k us x hg htr hc') fs.toList 0 0 l' (fun i f hi => by simpa using hf i f (by simpa using hi))
          (fun i f x hi hx => hcl.ofStruct t fs _ hu hc i f x.1 (by simpa using hi) (by simp at hx; simp [hx])) (by simpa using hxl.symm) hl' (by omega)
        simpa using this
      · cases h
    · rename_i k e hu
      simp only [Option.bind_eq_some_iff] at h
      obtain ⟨l', hl', h⟩ := h
      split at h
      · rename_i hlen
        obtain rfl := Option.some.inj h
        obtain ⟨xs, q, _, hxe, hcsl, hxl, hf⟩ := DataW.trod_array hu ht
        rw [hxe] at hc
        have key : ∀ j, j ≤ k → AllOk enc P w base spare held Cl (List.replicate j l').flatten (cs.drop ((k - j) * l'.length)) := by
          intro j
          induction j with
          | zero =>
            intro _
            rw [List.drop_of_length_le (by rw [hcsl, ← hlen.2]; simp)]
            trivial
          | succ j ih =>
            intro hj
            have h1 := hf (k - (j + 1)) (by omega)
            have hxi : xs[k - (j + 1)]? = some (xs[k - (j + 1)]'(by omega)) := List.getElem?_eq_getElem (by omega)
            rw [hxi, ← hlen.1] at h1
            have ha := leaves_ok hcl n e l' q _ _ hl' h1 (hcl.ofArray t k e _ hu hc _ (List.mem_map_of_mem (List.mem_of_getElem? hxi)))
            have ih' := ih (by omega)
            have e1 : (k - j) * l'.length = (k - (j + 1)) * l'.length + l'.length := by
              rw [show k - j = (k - (j + 1)) + 1 from by omega, Nat.add_mul, Nat.one_mul]
            rw [e1, ← List.drop_drop] at ih'
            have := ha.append ih'
            rw [List.take_append_drop] at this
            simpa [List.replicate_succ] using this
        have := key k (Nat.le_refl _)
        simpa using this
      · cases h
    · cases h

theorem open_struct_c (hcl : Closed P Cl) {r : Reach} {b0 : Nat} {t : TypeId} {fs : Array Field} {n : Nat} {ls : List Leaf} {v : Value} {d : DataW H} {p : List MemPlace} (hu : P.underlying t = some (.struct fs)) (hl : leaves P n t = some ls)
    (hv : Value.okWide P w r b0 t v) (h : DataW.Trod enc P w base spare held t v d p) (hc : Cl t d) : ∃ cs : List Value, v = .agg cs.toArray ∧ AllOk enc P w base spare held Cl ls cs := by
  obtain ⟨cs, rfl, hsz⟩ := okWide_struct hu hv
  obtain ⟨m, hm⟩ := h
  exact ⟨cs.toList, by simp, leaves_ok hcl n t ls m _ _ hl hm hc⟩
theorem open_struct {r : Reach} {b0 : Nat} {t : TypeId} {fs : Array Field} {n : Nat} {ls : List Leaf} {v : Value} {d : DataW H} {p : List MemPlace} (hu : P.underlying t = some (.struct fs)) (hl : leaves P n t = some ls)
    (hv : Value.okWide P w r b0 t v) (h : DataW.Trod enc P w base spare held t v d p) : ∃ cs : List Value, v = .agg cs.toArray ∧ AllOk enc P w base spare held (fun _ _ => True) ls cs :=
  open_struct_c (closed_true P) hu hl hv h trivial

def SizedCl (P : Program) (t : TypeId) (d : DataW H) : Prop := ∀ n ∈ d.weights P t, n ≤ reachBytes
theorem weightsEach_mem {ts : List TypeId} {ds : List (DataW H)} {i : Nat} {t : TypeId} {d : DataW H} (h1 : ts[i]? = some t) (h2 : ds[i]? = some d) : ∀ n ∈ d.weights P t, n ∈ DataW.weightsEach P ts ds := fun n hn => DataW.weights_mem_each h1 h2 n hn
theorem weightsAll_mem {e : TypeId} : ∀ {ds : List (DataW H)} {d : DataW H}, d ∈ ds → ∀ n ∈ d.weights P e, n ∈ DataW.weightsAll P e ds
  | x :: r, d, h, n, hn => by
    simp only [DataW.weightsAll, List.mem_append]
    rcases List.mem_cons.1 h with rfl | h
    · exact .inl hn
    · exact .inr (weightsAll_mem h n hn)
theorem closed_sized : Closed (H := H) P (SizedCl P) where
  ofStruct t fs parts hu hc i f d hf hd n hn := hc n (by
    simp only [DataW.weights, hu]
    exact weightsEach_mem (i := i) (t := f.type) (by simp [hf]) hd n hn)
  ofArray t k e parts hu hc d hd n hn := hc n (by
    simp only [DataW.weights, hu]
    exact weightsAll_mem hd n hn)
  ofSlice t e el sp hu hc d hd n hn := hc n (by
    simp only [DataW.weights, hu, List.mem_cons, List.mem_append]
    exact .inr (.inl (weightsAll_mem hd n hn)))

def Fr.Ok (f : Fr) : Prop := I64 f.dst ∧ I64 f.src ∧ I64 f.kind ∧ I64 f.ipSrc ∧ I64 f.ipDst ∧ I64 f.ttl ∧ I64 f.port ∧ f.body.size ≤ maxLen
def Pk.Ok (p : Pk) : Prop := I64 p.f0 ∧ I64 p.f1 ∧ I64 p.f2 ∧ I64 p.f3 ∧ I64 p.f4 ∧ I64 p.f5 ∧ I64 p.f6 ∧ I64 p.f7 ∧ I64 p.f8 ∧ I64 p.f9 ∧ p.body.size ≤ maxLen
end
end Go.Proofs.YtmidechdlbcepaaGreat