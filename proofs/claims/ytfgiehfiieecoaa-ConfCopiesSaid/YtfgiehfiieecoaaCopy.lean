/- conf.Copy: three rows of the call's own that hold what was wanted. -/
import Derived.Test.YtfgiehfiieecoaaClone
import Derived.Deep.RegionHeld3
namespace Go.Proofs.Ytfgiehfiieecoaa
open Go.RowKit
set_option maxRecDepth 100000

theorem owns_below {w w' : World} {B e size n : Nat} {v : Value} {xs : List Value} (h : w.ownsRow B e size v n xs) (hb : Below w.heap.size w w') : w'.ownsRow B e size v n xs := by
  refine ⟨h.1, ?_⟩
  rcases h.2 with h0 | ⟨g, cap, cur, hv, hg, hh, r⟩
  · exact .inl h0
  · have hlt := (h.lt g (by rw [hv]; rfl)).2
    exact .inr ⟨g, cap, cur, hv, hg, (hb.block g hlt).trans hh, r⟩
theorem owns_mono {w : World} {B B' e size n : Nat} {v : Value} {xs : List Value} (h : w.ownsRow B e size v n xs) (hB : B' ≤ B) : w.ownsRow B' e size v n xs := by
  refine ⟨h.1, ?_⟩
  rcases h.2 with h0 | ⟨g, cap, cur, hv, hg, r⟩
  · exact .inl h0
  · exact .inr ⟨g, cap, cur, hv, Nat.le_trans hB hg, r⟩

/-- How many blocks there are. -/
def size_ (w : World) : Nat := w.heap.size
/-- What a cell holds. -/
def getC (w : World) (a : Addr) : Value := (w.cell? a).getD undef
/-- A cell that is there, and may be written. -/
def Free (W : World) (b o : Nat) : Prop := W.cell? ⟨b, o, none⟩ = some (getC W ⟨b, o, none⟩) ∧ W.frozen? ⟨b, o, none⟩ = false
theorem free_of {W : World} {b o : Nat} {u : Value} (h : W.cell? ⟨b, o, none⟩ = some u) (hf : W.frozen? ⟨b, o, none⟩ = false) : Free W b o := ⟨by unfold getC; rw [h]; rfl, hf⟩
theorem Free.below {W W' : World} {b o : Nat} (h : Free W b o) (hb : Below W.heap.size W W') (hlt : b < W.heap.size) : Free W' b o :=
  free_of ((hb.cell (p := ⟨b, o, none⟩) hlt).trans h.1) ((hb.frozen (p := ⟨b, o, none⟩) hlt).trans h.2)
theorem Free.set {W : World} {b o : Nat} (h : Free W b o) (a : Addr) (u : Value) : Free (W.setCell a u) b o := by
  have hf : (W.setCell a u).frozen? ⟨b, o, none⟩ = false := by rw [World.frozen?_setCell]; exact h.2
  obtain ⟨v, hv⟩ := cell?_setCell_some (w := W) (p := a) (x := u) (q := ⟨b, o, none⟩) (v := getC W ⟨b, o, none⟩) h.1
  exact free_of hv hf

/-- What a call that lets memory be keeps of a box of three slices, and of one for three results. -/
def BoxOk (w : World) (B : Nat) (a b c : Value) (W : World) : Prop := W.cell? ⟨B, 0, none⟩ = some a ∧ W.cell? ⟨B, 1, none⟩ = some b ∧ W.cell? ⟨B, 2, none⟩ = some c ∧
  (W.cell? ⟨B + 1, 0, none⟩ = some (getC W ⟨B + 1, 0, none⟩) ∧ W.frozen? ⟨B + 1, 0, none⟩ = false) ∧ (W.cell? ⟨B + 1, 1, none⟩ = some (getC W ⟨B + 1, 1, none⟩) ∧ W.frozen? ⟨B + 1, 1, none⟩ = false) ∧
  (W.cell? ⟨B + 1, 2, none⟩ = some (getC W ⟨B + 1, 2, none⟩) ∧ W.frozen? ⟨B + 1, 2, none⟩ = false) ∧ Below w.heap.size w W ∧ B + 1 < size_ W
theorem BoxOk.nxt {w : World} {B : Nat} {a b c : Value} {W W' : World} (h : BoxOk w B a b c W) (hb : Below W.heap.size W W') : BoxOk w B a b c W' := by
  obtain ⟨h0, h1, h2, g0, g1, g2, h3, h4⟩ := h
  unfold size_ at h4
  have hc : ∀ b o, b < B + 2 → W'.cell? ⟨b, o, none⟩ = W.cell? ⟨b, o, none⟩ := fun b o hb' => hb.cell (p := ⟨b, o, none⟩) (by simp; omega)
  refine ⟨(hc _ _ (by omega)).trans h0, (hc _ _ (by omega)).trans h1, (hc _ _ (by omega)).trans h2, Free.below g0 hb (by omega), Free.below g1 hb (by omega), Free.below g2 hb (by omega), h3.nxt hb, ?_⟩
  have := hb.size
  unfold size_
  omega
theorem BoxOk.below {w : World} {B : Nat} {a b c : Value} {W : World} (h : BoxOk w B a b c W) : Below w.heap.size w W := h.2.2.2.2.2.2.1
theorem BoxOk.set {w : World} {B : Nat} {a b c : Value} {W : World} (h : BoxOk w B a b c W) (hB : w.heap.size ≤ B) (o : Nat) (u : Value) : BoxOk w B a b c (W.setCell ⟨B + 1, o, none⟩ u) := by
  obtain ⟨h0, h1, h2, g0, g1, g2, h3, h4⟩ := h
  have hc : ∀ o', (W.setCell ⟨B + 1, o, none⟩ u).cell? ⟨B, o', none⟩ = W.cell? ⟨B, o', none⟩ := fun o' => World.cell?_setCell_other W _ _ u (by intro e; injection e with e; omega)
  exact ⟨(hc _).trans h0, (hc _).trans h1, (hc _).trans h2, Free.set g0 _ _, Free.set g1 _ _, Free.set g2 _ _, h3.setCell (by simp; omega) _, by unfold size_ at *; simpa using h4⟩

set_option maxHeartbeats 800000 in
theorem conf_Copy (A0 A1 A2 : Option Addr) (n0 n1 n2 c0 c1 c2 : Nat) (xs0 xs1 xs2 : List Value) (w : World) (hl0 : xs0.length = n0 * 3) (hl1 : xs1.length = n1 * 5) (hl2 : xs2.length = n2 * 9)
    (hr0 : Rd w (fun b => b < w.heap.size) A0 xs0) (hr1 : Rd w (fun b => b < w.heap.size) A1 xs1) (hr2 : Rd w (fun b => b < w.heap.size) A2 xs2) (h10 : ∀ u ∈ xs0, u.oneCell' = true) (h11 : ∀ u ∈ xs1, u.oneCell' = true) (h12 : ∀ u ∈ xs2, u.oneCell' = true)
    (hn0 : n0 * 24 ≤ 140737488355328) (hn1 : n1 * 40 ≤ 140737488355328) (hn2 : n2 * 72 ≤ 140737488355328) :
    Calls Try.prog 33 #[.agg #[.slice A0 n0 c0, .slice A1 n1 c1, .slice A2 n2 c2]] w fun e w' => ∃ v0 v1 v2, e = .returned (.agg #[v0, v1, v2]) ∧
      w'.ownsRow w.heap.size 84 3 v0 n0 xs0 ∧ w'.ownsRow w.heap.size 86 5 v1 n1 xs1 ∧ w'.ownsRow w.heap.size 88 9 v2 n2 xs2 ∧ Below w.heap.size w w' := by
  have H0 := fun (W : World) (hb : Below w.heap.size w W) => clone_sw A0 n0 c0 xs0 W hl0 ((hr0.below hb (fun _ h => h)).weaken (fun b h => Nat.lt_of_lt_of_le h hb.size)) h10 hn0
  have H1 := fun (W : World) (hb : Below w.heap.size w W) => clone_po A1 n1 c1 xs1 W hl1 ((hr1.below hb (fun _ h => h)).weaken (fun b h => Nat.lt_of_lt_of_le h hb.size)) h11 hn1
  have H2 := fun (W : World) (hb : Below w.heap.size w W) => clone_ac A2 n2 c2 xs2 W hl2 ((hr2.below hb (fun _ h => h)).weaken (fun b h => Nat.lt_of_lt_of_le h hb.size)) h12 hn2
  clear hr0 hr1 hr2 hl0 hl1 hl2 h10 h11 h12 hn0 hn1 hn2
  have K0 := Lib.hid H0
  have K1 := Lib.hid H1
  have K2 := Lib.hid H2
  clear H0 H1 H2
  go_enter Try.func33, Try.ntmps33
  go_wp2
  have keep0 : BoxOk w w.heap.size (Value.slice A0 n0 c0) (Value.slice A1 n1 c1) (Value.slice A2 n2 c2) ((w.alloc (Obj.cells #[Value.slice A0 n0 c0, Value.slice A1 n1 c1, Value.slice A2 n2 c2] 35)).alloc (Obj.cells #[Value.slice none 0 0, Value.slice none 0 0, Value.slice none 0 0] 35)).drew :=
    ⟨by simp [go_sem], by simp [go_sem], by simp [go_sem], free_of (u := .slice none 0 0) (by simp [go_sem]) (by simp [go_sem]), free_of (u := .slice none 0 0) (by simp [go_sem]) (by simp [go_sem]), free_of (u := .slice none 0 0) (by simp [go_sem]) (by simp [go_sem]), ((al_ _ _).more _).drew, by simp [size_, World.drew]⟩
  have KP := Lib.hid keep0
  clear keep0
  go_region_held3 (fun w' => w'.cell? ⟨w.heap.size, 0, none⟩ = some (.slice A0 n0 c0) ∧ w'.cell? ⟨w.heap.size, 1, none⟩ = some (.slice A1 n1 c1) ∧ w'.cell? ⟨w.heap.size, 2, none⟩ = some (.slice A2 n2 c2) ∧ (w'.cell? ⟨w.heap.size + 1, 0, none⟩ = some (getC w' ⟨w.heap.size + 1, 0, none⟩) ∧ w'.frozen? ⟨w.heap.size + 1, 0, none⟩ = false) ∧ (w'.cell? ⟨w.heap.size + 1, 1, none⟩ = some (getC w' ⟨w.heap.size + 1, 1, none⟩) ∧ w'.frozen? ⟨w.heap.size + 1, 1, none⟩ = false) ∧ (w'.cell? ⟨w.heap.size + 1, 2, none⟩ = some (getC w' ⟨w.heap.size + 1, 2, none⟩) ∧ w'.frozen? ⟨w.heap.size + 1, 2, none⟩ = false) ∧ Below w.heap.size w w' ∧ w.heap.size + 1 < size_ w') (first | exact KP.out | exact t1 | exact t2 | exact t3 | exact BoxOk.set (BoxOk.set (BoxOk.set t3 (Nat.le_refl _) _ _) (Nat.le_refl _) _ _) (Nat.le_refl _) _ _) (first
    | (go_at_call 85; have s1 := (by assumption : _ = some (Value.slice A0 n0 c0) ∧ _ = some (Value.slice A1 n1 c1) ∧ _ = some (Value.slice A2 n2 c2) ∧ (_ = _ ∧ _ = false) ∧ (_ = _ ∧ _ = false) ∧ (_ = _ ∧ _ = false) ∧ Below w.heap.size w _ ∧ w.heap.size + 1 < size_ _); refine (K0.out _ (BoxOk.below s1)).mono ?_; rintro e w1 ⟨v1, rfl, hown1, hb1⟩; have t1 := BoxOk.nxt s1 hb1; obtain ⟨a1, d1, rfl, _⟩ := rd_of_owns hown1)
    | (go_at_call 79; have s2 := (by assumption : _ = some (Value.slice A0 n0 c0) ∧ _ = some (Value.slice A1 n1 c1) ∧ _ = some (Value.slice A2 n2 c2) ∧ (_ = _ ∧ _ = false) ∧ (_ = _ ∧ _ = false) ∧ (_ = _ ∧ _ = false) ∧ Below w.heap.size w _ ∧ w.heap.size + 1 < size_ _); refine (K1.out _ (BoxOk.below s2)).mono ?_; rintro e w2 ⟨v2, rfl, hown2, hb2⟩; have t2 := BoxOk.nxt s2 hb2; obtain ⟨a2, d2, rfl, _⟩ := rd_of_owns hown2)
    | (go_at_call 86; have s3 := (by assumption : _ = some (Value.slice A0 n0 c0) ∧ _ = some (Value.slice A1 n1 c1) ∧ _ = some (Value.slice A2 n2 c2) ∧ (_ = _ ∧ _ = false) ∧ (_ = _ ∧ _ = false) ∧ (_ = _ ∧ _ = false) ∧ Below w.heap.size w _ ∧ w.heap.size + 1 < size_ _); refine (K2.out _ (BoxOk.below s3)).mono ?_; rintro e w3 ⟨v3, rfl, hown3, hb3⟩; have t3 := BoxOk.nxt s3 hb3; obtain ⟨a3, d3, rfl, _⟩ := rd_of_owns hown3))
  obtain ⟨z0, z1, z2, ⟨y0, _⟩, ⟨y1, _⟩, ⟨y2, _⟩, bb, bz⟩ := t3
  unfold size_ at bz
  have l2 := hb2.size
  have l3 := hb3.size
  have hs1 : w.heap.size + 1 < w1.heap.size := by have := t1.2.2.2.2.2.2.2; unfold size_ at this; exact this
  have hs2 : w.heap.size + 1 < w2.heap.size := by omega
  have HB := Lib.hid bb
  have o1 := owns_mono (ownsRow_setCell_below (ownsRow_setCell_below (ownsRow_setCell_below (owns_below (owns_below hown1 hb2) hb3) (a := ⟨w.heap.size + 1, 0, none⟩) (by simp [World.drew]) (.slice a1 n0 d1)) (a := ⟨w.heap.size + 1, 1, none⟩) (by simp [World.drew]) (.slice a2 n1 d2)) (a := ⟨w.heap.size + 1, 2, none⟩) (by simp [World.drew]) (.slice a3 n2 d3)) (B' := w.heap.size) (by simp [World.drew]; omega)
  have o2 := owns_mono (ownsRow_setCell_below (ownsRow_setCell_below (ownsRow_setCell_below (owns_below hown2 hb3) (a := ⟨w.heap.size + 1, 0, none⟩) hs1 (.slice a1 n0 d1)) (a := ⟨w.heap.size + 1, 1, none⟩) hs1 (.slice a2 n1 d2)) (a := ⟨w.heap.size + 1, 2, none⟩) hs1 (.slice a3 n2 d3)) (B' := w.heap.size) (by omega)
  have o3 := owns_mono (ownsRow_setCell_below (ownsRow_setCell_below (ownsRow_setCell_below hown3 (a := ⟨w.heap.size + 1, 0, none⟩) hs2 (.slice a1 n0 d1)) (a := ⟨w.heap.size + 1, 1, none⟩) hs2 (.slice a2 n1 d2)) (a := ⟨w.heap.size + 1, 2, none⟩) hs2 (.slice a3 n2 d3)) (B' := w.heap.size) (by omega)
  have O1 := Lib.hid o1
  have O2 := Lib.hid o2
  have O3 := Lib.hid o3
  clear o1 o2 o3 hown1 hown2 hown3 hb1 hb2 hb3 t1 t2 s1 s2 s3 bb
  go_wp2
  refine bodyPost_ret (v := .agg #[.slice a1 n0 d1, .slice a2 n1 d2, .slice a3 n2 d3]) (by simp [results, Try.results33, go_sem, y0, y1, y2]) rfl ⟨_, _, _, rfl, O1.out, O2.out, O3.out, ?_⟩
  exact ((HB.out.setCell (p := ⟨w.heap.size + 1, 0, none⟩) (by simp) _).setCell (p := ⟨w.heap.size + 1, 1, none⟩) (by simp) _).setCell (p := ⟨w.heap.size + 1, 2, none⟩) (by simp) _
end Go.Proofs.Ytfgiehfiieecoaa
