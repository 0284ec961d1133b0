/- sameConf answers true where both read alike. -/
import Derived.Test.YtfgiehfiieecoaaCopy
namespace Go.Proofs.Ytfgiehfiieecoaa
open Go.RowKit
set_option maxRecDepth 100000

/-- Two boxes of three slices, behind whatever has been drawn. -/
def TwoBox (w : World) (a0 a1 a2 b0 b1 b2 : Value) (W : World) : Prop := W.cell? ⟨w.heap.size, 0, none⟩ = some a0 ∧ W.cell? ⟨w.heap.size, 1, none⟩ = some a1 ∧ W.cell? ⟨w.heap.size, 2, none⟩ = some a2 ∧
  W.cell? ⟨w.heap.size + 1, 0, none⟩ = some b0 ∧ W.cell? ⟨w.heap.size + 1, 1, none⟩ = some b1 ∧ W.cell? ⟨w.heap.size + 1, 2, none⟩ = some b2 ∧ Below w.heap.size w W

set_option maxHeartbeats 800000 in
theorem sameConf_true (A0 A1 A2 B0 B1 B2 : Option Addr) (c0 c1 c2 d0 d1 d2 : Nat) (ss : List Sw) (ps : List Po) (ac : List Ac) (w : World) (hm : ss.length ≤ maxLen ∧ ps.length ≤ maxLen ∧ ac.length ≤ maxLen)
    (hr0 : Rd w (fun b => b < w.heap.size) A0 (ss.map Sw.cells).flatten) (hr1 : Rd w (fun b => b < w.heap.size) A1 (ps.map Po.cells).flatten) (hr2 : Rd w (fun b => b < w.heap.size) A2 (ac.map Ac.cells).flatten)
    (gr0 : Rd w (fun b => b < w.heap.size) B0 (ss.map Sw.cells).flatten) (gr1 : Rd w (fun b => b < w.heap.size) B1 (ps.map Po.cells).flatten) (gr2 : Rd w (fun b => b < w.heap.size) B2 (ac.map Ac.cells).flatten) :
    Calls Try.prog 34 #[.agg #[.slice A0 ss.length c0, .slice A1 ps.length c1, .slice A2 ac.length c2], .agg #[.slice B0 ss.length d0, .slice B1 ps.length d1, .slice B2 ac.length d2]] w fun e w' => e = .returned (.bool true) ∧ Below w.heap.size w w' := by
  obtain ⟨hm0, hm1, hm2⟩ := hm
  unfold maxLen at hm0 hm1 hm2
  have K0 := Lib.hid hr0
  have K1 := Lib.hid hr1
  have K2 := Lib.hid hr2
  have G0 := Lib.hid gr0
  have G1 := Lib.hid gr1
  have G2 := Lib.hid gr2
  clear hr0 hr1 hr2 gr0 gr1 gr2
  generalize hn0 : ss.length = n0 at *
  generalize hn1 : ps.length = n1 at *
  generalize hn2 : ac.length = n2 at *
  have N0 := Lib.hid hn0
  have N1 := Lib.hid hn1
  have N2 := Lib.hid hn2
  clear hn0 hn1 hn2
  go_enter Try.func34, Try.ntmps34
  go_wp2
  go_loopw [5] (fun i wr => ∃ k : Nat, k ≤ n0 ∧ i = .int .i64 k ∧ TwoBox w (.slice A0 n0 c0) (.slice A1 n1 c1) (.slice A2 n2 c2) (.slice B0 n0 d0) (.slice B1 n1 d1) (.slice B2 n2 d2) wr) (fun i _ => n0 - (intOf i).toNat)
  case atStart => exact ⟨0, Nat.zero_le _, rfl, by simp, by simp, by simp, by simp, by simp, by simp, (al_ _ _).more _⟩
  case round =>
    obtain ⟨k, hk, rfl, x0, x1, x2, y0, y1, y2, hbb⟩ := hrel
    have HB := Lib.hid hbb
    by_cases hlt : k < n0
    · have hk' : (k : Int) < (n0 : Int) := by omega
      obtain ⟨x, hx⟩ : ∃ x, ss[k]? = some x := ⟨_, List.getElem?_eq_getElem (by rw [N0.out]; exact hlt)⟩
      obtain ⟨b, off, rfl, hb, hcell⟩ := rd_at sw_len (by omega) (K0.out.below hbb (fun _ h => h)) hx
      obtain ⟨b', off', rfl, hb', hcell'⟩ := rd_at sw_len (by omega) (G0.out.below hbb (fun _ h => h)) hx
      have e0 : wr.cell? ⟨b, off + k * 3, none⟩ = _ := hcell 0 _ rfl
      have f0 : wr.cell? ⟨b', off' + k * 3, none⟩ = _ := hcell' 0 _ rfl
      have e1 : wr.cell? ⟨b, off + k * 3 + 1, none⟩ = _ := hcell 1 _ rfl
      have f1 : wr.cell? ⟨b', off' + k * 3 + 1, none⟩ = _ := hcell' 1 _ rfl
      have e2 : wr.cell? ⟨b, off + k * 3 + 2, none⟩ = _ := hcell 2 _ rfl
      have f2 : wr.cell? ⟨b', off' + k * 3 + 2, none⟩ = _ := hcell' 2 _ rfl
      have hq := fun W : World => (neq_sw x x W).trans (by rw [beqL_refl (sw_shp x)])
      clear hx hcell hcell' hbb
      go_wp2
      go_quiet (fail)
      go_wp2
      go_roundw
      case rel => exact ⟨k + 1, by omega, by go_num, x0, x1, x2, y0, y1, y2, below_drewN HB.out _⟩
      case measure => simp [intOf]; omega
    · obtain rfl : n0 = k := by omega
      clear hbb
      go_wp2
      go_loopw [6] (fun i wr => ∃ k : Nat, k ≤ n1 ∧ i = .int .i64 k ∧ TwoBox w (.slice A0 n0 c0) (.slice A1 n1 c1) (.slice A2 n2 c2) (.slice B0 n0 d0) (.slice B1 n1 d1) (.slice B2 n2 d2) wr) (fun i _ => n1 - (intOf i).toNat)
      case atStart => exact ⟨0, Nat.zero_le _, rfl, x0, x1, x2, y0, y1, y2, HB.out⟩
      case round =>
        clear x0 x1 x2 y0 y1 y2 HB
        obtain ⟨k, hk, rfl, x0, x1, x2, y0, y1, y2, hbb⟩ := hrel
        have HB := Lib.hid hbb
        by_cases hlt : k < n1
        · have hk' : (k : Int) < (n1 : Int) := by omega
          obtain ⟨x, hx⟩ : ∃ x, ps[k]? = some x := ⟨_, List.getElem?_eq_getElem (by rw [N1.out]; exact hlt)⟩
          obtain ⟨b, off, rfl, hb, hcell⟩ := rd_at po_len (by omega) (K1.out.below hbb (fun _ h => h)) hx
          obtain ⟨b', off', rfl, hb', hcell'⟩ := rd_at po_len (by omega) (G1.out.below hbb (fun _ h => h)) hx
          have e0 : wr.cell? ⟨b, off + k * 5, none⟩ = _ := hcell 0 _ rfl
          have f0 : wr.cell? ⟨b', off' + k * 5, none⟩ = _ := hcell' 0 _ rfl
          have e1 : wr.cell? ⟨b, off + k * 5 + 1, none⟩ = _ := hcell 1 _ rfl
          have f1 : wr.cell? ⟨b', off' + k * 5 + 1, none⟩ = _ := hcell' 1 _ rfl
          have e2 : wr.cell? ⟨b, off + k * 5 + 2, none⟩ = _ := hcell 2 _ rfl
          have f2 : wr.cell? ⟨b', off' + k * 5 + 2, none⟩ = _ := hcell' 2 _ rfl
          have e3 : wr.cell? ⟨b, off + k * 5 + 3, none⟩ = _ := hcell 3 _ rfl
          have f3 : wr.cell? ⟨b', off' + k * 5 + 3, none⟩ = _ := hcell' 3 _ rfl
          have e4 : wr.cell? ⟨b, off + k * 5 + 4, none⟩ = _ := hcell 4 _ rfl
          have f4 : wr.cell? ⟨b', off' + k * 5 + 4, none⟩ = _ := hcell' 4 _ rfl
          have hq := fun W : World => (neq_po x x W).trans (by rw [beqL_refl (po_shp x)])
          clear hx hcell hcell' hbb
          go_wp2
          go_quiet (fail)
          go_wp2
          go_roundw
          case rel => exact ⟨k + 1, by omega, by go_num, x0, x1, x2, y0, y1, y2, below_drewN HB.out _⟩
          case measure => simp [intOf]; omega
        · obtain rfl : n1 = k := by omega
          clear hbb
          go_wp2
          go_loopw [7] (fun i wr => ∃ k : Nat, k ≤ n2 ∧ i = .int .i64 k ∧ TwoBox w (.slice A0 n0 c0) (.slice A1 n1 c1) (.slice A2 n2 c2) (.slice B0 n0 d0) (.slice B1 n1 d1) (.slice B2 n2 d2) wr) (fun i _ => n2 - (intOf i).toNat)
          case atStart => exact ⟨0, Nat.zero_le _, rfl, x0, x1, x2, y0, y1, y2, HB.out⟩
          case round =>
            clear x0 x1 x2 y0 y1 y2 HB
            obtain ⟨k, hk, rfl, x0, x1, x2, y0, y1, y2, hbb⟩ := hrel
            have HB := Lib.hid hbb
            by_cases hlt : k < n2
            · have hk' : (k : Int) < (n2 : Int) := by omega
              obtain ⟨x, hx⟩ : ∃ x, ac[k]? = some x := ⟨_, List.getElem?_eq_getElem (by rw [N2.out]; exact hlt)⟩
              obtain ⟨b, off, rfl, hb, hcell⟩ := rd_at ac_len (by omega) (K2.out.below hbb (fun _ h => h)) hx
              obtain ⟨b', off', rfl, hb', hcell'⟩ := rd_at ac_len (by omega) (G2.out.below hbb (fun _ h => h)) hx
              have e0 : wr.cell? ⟨b, off + k * 9, none⟩ = _ := hcell 0 _ rfl
              have f0 : wr.cell? ⟨b', off' + k * 9, none⟩ = _ := hcell' 0 _ rfl
              have e1 : wr.cell? ⟨b, off + k * 9 + 1, none⟩ = _ := hcell 1 _ rfl
              have f1 : wr.cell? ⟨b', off' + k * 9 + 1, none⟩ = _ := hcell' 1 _ rfl
              have e2 : wr.cell? ⟨b, off + k * 9 + 2, none⟩ = _ := hcell 2 _ rfl
              have f2 : wr.cell? ⟨b', off' + k * 9 + 2, none⟩ = _ := hcell' 2 _ rfl
              have e3 : wr.cell? ⟨b, off + k * 9 + 3, none⟩ = _ := hcell 3 _ rfl
              have f3 : wr.cell? ⟨b', off' + k * 9 + 3, none⟩ = _ := hcell' 3 _ rfl
              have e4 : wr.cell? ⟨b, off + k * 9 + 4, none⟩ = _ := hcell 4 _ rfl
              have f4 : wr.cell? ⟨b', off' + k * 9 + 4, none⟩ = _ := hcell' 4 _ rfl
              have e5 : wr.cell? ⟨b, off + k * 9 + 5, none⟩ = _ := hcell 5 _ rfl
              have f5 : wr.cell? ⟨b', off' + k * 9 + 5, none⟩ = _ := hcell' 5 _ rfl
              have e6 : wr.cell? ⟨b, off + k * 9 + 6, none⟩ = _ := hcell 6 _ rfl
              have f6 : wr.cell? ⟨b', off' + k * 9 + 6, none⟩ = _ := hcell' 6 _ rfl
              have e7 : wr.cell? ⟨b, off + k * 9 + 7, none⟩ = _ := hcell 7 _ rfl
              have f7 : wr.cell? ⟨b', off' + k * 9 + 7, none⟩ = _ := hcell' 7 _ rfl
              have e8 : wr.cell? ⟨b, off + k * 9 + 8, none⟩ = _ := hcell 8 _ rfl
              have f8 : wr.cell? ⟨b', off' + k * 9 + 8, none⟩ = _ := hcell' 8 _ rfl
              have hq := fun W : World => (neq_ac x x W).trans (by rw [beqL_refl (ac_shp x)])
              clear hx hcell hcell' hbb
              go_wp2
              go_quiet (fail)
              go_wp2
              go_roundw
              case rel => exact ⟨k + 1, by omega, by go_num, x0, x1, x2, y0, y1, y2, below_drewN HB.out _⟩
              case measure => simp [intOf]; omega
            · obtain rfl : n2 = k := by omega
              clear hbb
              go_wp2
              go_ret
              exact ⟨rfl, HB.out⟩
end Go.Proofs.Ytfgiehfiieecoaa
