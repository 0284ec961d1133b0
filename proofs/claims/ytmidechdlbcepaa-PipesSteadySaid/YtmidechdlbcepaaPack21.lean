import Derived.Test.YtmidechdlbcepaaPack19
import Derived.Test.YtmidechdlbcepaaPack13
set_option linter.unusedSimpArgs false
set_option linter.unusedVariables false
namespace Go.Proofs.Ytmidechdlbcepaa
open Go.ChangeShapes Go.WideShapes Go.ChangeAt Go.RowKit Go.Deep

def RepF (w : World) (fs : List FV) (us : List Value) : Prop := ∀ σ, AV.RepL σ (fun b => b < w.heap.size) w (fs.map .fv) us
theorem RepF.append {w : World} {fs gs : List FV} {us vs : List Value} (h : RepF w fs us) (h' : RepF w gs vs) : RepF w (fs ++ gs) (us ++ vs) := fun σ => by
  rw [List.map_append]
  exact (h σ).append (h' σ)
theorem RepF.length {w : World} {fs : List FV} {us : List Value} (h : RepF w fs us) : us.length = fs.length := by simpa using (h (fun _ => undef)).length
theorem decode_repF {α : Type} {enc : α → List FV} {Ok : α → Prop} {w : World} {Q : List Value → Prop} (hd : ∀ cs, Q cs → ∃ x, Ok x ∧ RepF w (enc x) cs) : ∀ css : List (List Value), (∀ cs ∈ css, Q cs) → ∃ l : List α, l.length = css.length ∧ (∀ x ∈ l, Ok x) ∧ RepF w (l.flatMap enc) css.flatten
  | [], _ => ⟨[], rfl, by simp, fun _ => trivial⟩
  | cs :: css, h => by
    obtain ⟨x, hx, hr⟩ := hd cs (h _ (by simp))
    obtain ⟨l, hl, ho, hr'⟩ := decode_repF hd css (fun c hc => h c (by simp [hc]))
    exact ⟨x :: l, by simp [hl], by simpa using ⟨hx, ho⟩, by rw [List.flatMap_cons, List.flatten_cons]; exact hr.append hr'⟩
theorem rep_of_rd {w : World} {A : Option Addr} {n c : Nat} {us : List Value} {fs : List FV} (h : Rd w (fun b => b < w.heap.size) A us) (hr : RepF w fs us) (h1 : n ≤ c) (h2 : c ≤ maxLen) : (FV.sl fs n).Rep (fun b => b < w.heap.size) w (.slice A n c) := by
  refine ⟨A, c, rfl, h1, h2, ?_⟩
  by_cases hn : fs = []
  · exact .inl hn
  · obtain ⟨b, off, e, hb, hc⟩ := h (fun e => hn (List.eq_nil_of_length_eq_zero (by rw [← hr.length, e]; rfl)))
    exact .inr ⟨b, off, e, hb, FV.RepAt.ofL (hr (fun _ => undef)) hc⟩

section
variable {H : Type} {enc : TypeId × Value → H} {w : World} {base : Nat} {spare : Nat → Bool} {held : Bool}
theorem open_sl {α : Type} {ef : α → List FV} {Ok : α → Prop} {P : Program} {t e : TypeId} {n k by_ : Nat} {ls : List Leaf} {v : Value} (hu : P.underlying t = some (.slice e)) (hl : leaves P n e = some ls) (hc : P.cellsOf e = k) (hk : ls.length = k) (hp : 0 < k)
    (hby : P.bytesOf e = by_) (hd : ∀ cs, AllOk enc P w base spare held (SizedCl P) ls cs → ∃ x, Ok x ∧ RepF w (ef x) cs) (h : LeafOk enc P w base spare held (SizedCl P) (.slice t) v) :
    ∃ l : List α, (∀ x ∈ l, Ok x) ∧ l.length * by_ ≤ reachBytes ∧ (slOf ef l).Rep (fun b => b < w.heap.size) w v := by
  obtain ⟨m, y, hm, hC⟩ := h
  obtain ⟨css, A, c, rfl, h1, h2, h3, h4, h5⟩ := open_slice_plain closed_sized hu hl (hc.trans hk.symm) (by omega) hm hC
  obtain ⟨l, hlen, hok, hr⟩ := decode_repF hd css h3
  refine ⟨l, hok, ?_, by rw [← hlen]; exact rep_of_rd h4 hr (by omega) h2⟩
  rcases h5 with h5 | ⟨el, sp, hE, hel⟩
  · rw [h5] at hlen
    rw [hlen]
    simp
  · have := hE ((el.length + sp.length) * P.bytesOf e) (by simp [DataW.weights, hu])
    rw [hby] at this
    rw [hlen, ← hel]
    exact Nat.le_trans (Nat.mul_le_mul_right _ (by omega)) this
theorem open_sl_arg {α : Type} {ef : α → List FV} {Ok : α → Prop} {P : Program} {t e : TypeId} {n k by_ : Nat} {ls : List Leaf} {v : Value} {d : DataW H} {p : List MemPlace} (hu : P.underlying t = some (.slice e)) (hl : leaves P n e = some ls) (hc : P.cellsOf e = k) (hk : ls.length = k) (hp : 0 < k)
    (hby : P.bytesOf e = by_) (hd : ∀ cs, AllOk enc P w base spare held (SizedCl P) ls cs → ∃ x, Ok x ∧ RepF w (ef x) cs) {r : Reach} {b0 : Nat} (hv : Value.okWide P w r b0 t v) (h : DataW.Trod enc P w base spare held t v d p) (hs : SizedCl P t d) :
    ∃ l : List α, (∀ x ∈ l, Ok x) ∧ l.length * by_ ≤ reachBytes ∧ (slOf ef l).Rep (fun b => b < w.heap.size) w v := by
  obtain ⟨A, len, cap, rfl⟩ := okWide_slice hu hv
  obtain ⟨m, hm⟩ := h
  exact open_sl hu hl hc hk hp hby hd ⟨m, (d, p), hm, hs⟩

end

theorem Fun.yes {P : Program} {f : FuncId} {args : List AV} {vs : List Value} {w : World} (h : Fun P f args (.fv (.bool true))) (hr : AV.RepL (fun _ => undef) (fun b => b < w.heap.size) w args vs) :
    Calls P f vs.toArray w fun e w' => e = .returned (.bool true) ∧ Below w.heap.size w w' := by
  refine (h.2 (fun _ => undef) (fun b => b < w.heap.size) w vs (inv_none fun _ h => h) hr).mono ?_
  rintro e w' ⟨v, r, own', σ', Z', rfl, ⟨rfl, rfl⟩, hI, hv⟩
  have hv : v = .bool true := hv
  subst hv
  refine ⟨rfl, hI.os, hI.tape, hI.output, hI.size, fun b hb => hI.frame b hb ?_⟩
  rintro ⟨g, ob, h1, _⟩
  simp [lk] at h1
end Go.Proofs.Ytmidechdlbcepaa
