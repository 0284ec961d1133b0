/- The walk of the law ConfCopies. -/
import Derived.Test.YtfgiehfiieecoaaSameConf
import Derived.Test.YtfgiehfiieecoaaConfRead
namespace Go.Proofs.Ytfgiehfiieecoaa
open Go.ChangeShapes Go.WideShapes Go.ChangeAt Go.RowKit
set_option maxRecDepth 100000

set_option maxHeartbeats 400000 in
theorem confCopies_walk (c : Cf) (A0 A1 A2 : Option Addr) (c0 c1 c2 : Nat) (w : World) (hm : c.ss.length ≤ maxLen ∧ c.ps.length ≤ maxLen ∧ c.acs.length ≤ maxLen)
    (hr0 : Rd w (fun b => b < w.heap.size) A0 (c.ss.map Sw.cells).flatten) (hr1 : Rd w (fun b => b < w.heap.size) A1 (c.ps.map Po.cells).flatten) (hr2 : Rd w (fun b => b < w.heap.size) A2 (c.acs.map Ac.cells).flatten)
    (hn0 : c.ss.length * 24 ≤ reachBytes) (hn1 : c.ps.length * 40 ≤ reachBytes) (hn2 : c.acs.length * 72 ≤ reachBytes) :
    Calls Try.prog 5 #[.agg #[.slice A0 c.ss.length c0, .slice A1 c.ps.length c1, .slice A2 c.acs.length c2]] w fun e w' => e = .returned (.bool true) ∧ Below w.heap.size w w' := by
  obtain ⟨ss, ps, acs⟩ := c
  dsimp only at *
  have one : ∀ {α : Type} {cells : α → List Value} (_ : ∀ x, ∀ u ∈ cells x, u.oneCell' = true) (l : List α), ∀ u ∈ (l.map cells).flatten, u.oneCell' = true := by
    intro α cells h l u hu
    simp only [List.mem_flatten, List.mem_map] at hu
    obtain ⟨_, ⟨x, _, rfl⟩, hx⟩ := hu
    exact h x u hx
  have C1 := fun (W : World) (hb : Below w.heap.size w W) => conf_Copy A0 A1 A2 ss.length ps.length acs.length c0 c1 c2 _ _ _ W (flatten_len sw_len ss) (flatten_len po_len ps) (flatten_len ac_len acs)
    ((hr0.below hb (fun _ h => h)).weaken (fun b h => Nat.lt_of_lt_of_le h hb.size)) ((hr1.below hb (fun _ h => h)).weaken (fun b h => Nat.lt_of_lt_of_le h hb.size)) ((hr2.below hb (fun _ h => h)).weaken (fun b h => Nat.lt_of_lt_of_le h hb.size))
    (one sw_one ss) (one po_one ps) (one ac_one acs) (reach_le hn0) (reach_le hn1) (reach_le hn2)
  have K1 := Lib.hid C1
  have R0 := Lib.hid hr0
  have R1 := Lib.hid hr1
  have R2 := Lib.hid hr2
  have M := Lib.hid hm
  clear C1 hr0 hr1 hr2 hm one
  go_enter Try.func5, Try.ntmps5
  go_wp2_with fail
  refine (K1.out _ (al_ _ _)).mono ?_
  rintro e w1 ⟨v0, v1, v2, rfl, o0, o1, o2, hb1⟩
  obtain ⟨hc1, hf1⟩ := bcell hb1
  have hz1 := hb1.size
  try simp at hz1
  have l1 : w.heap.size < w1.heap.size := by omega
  obtain ⟨B0, d0, rfl, _, _, r0⟩ := rd_of_owns o0
  obtain ⟨B1, d1, rfl, _, _, r1⟩ := rd_of_owns o1
  obtain ⟨B2, d2, rfl, _, _, r2⟩ := rd_of_owns o2
  have HB := Lib.hid ((al_ w _).nxt hb1)
  have S0 := Lib.hid r0
  have S1 := Lib.hid r1
  have S2 := Lib.hid r2
  clear o0 o1 o2 r0 r1 r2 hb1
  go_wp2_with fail
  refine (sameConf_true B0 B1 B2 A0 A1 A2 d0 d1 d2 c0 c1 c2 ss ps acs _ M.out (S0.out.up (al_ w1 _) (fun _ h => h.2)) (S1.out.up (al_ w1 _) (fun _ h => h.2)) (S2.out.up (al_ w1 _) (fun _ h => h.2)) (R0.out.up (HB.out.more _) (fun _ h => h)) (R1.out.up (HB.out.more _) (fun _ h => h)) (R2.out.up (HB.out.more _) (fun _ h => h))).mono ?_
  rintro e w2 ⟨rfl, hb2⟩
  have HB2 := Lib.hid ((HB.out.more _).nxt hb2)
  clear hb2
  go_wp2
  go_ret
  exact ⟨rfl, HB2.out⟩

theorem confCopies_open {H : Type} {enc : TypeId × Value → H} (W : World) (base : Nat) {v0 : Value} {d0 : DataW H} {p0 : List MemPlace} (hv0 : Value.okWide Try.prog W .any base 35 v0)
    (h0 : DataW.Trod enc Try.prog W 0 (fun _ => true) true 35 v0 d0 p0) (hs0 : SizedCl Try.prog 35 d0) : Calls Try.prog 5 #[v0] W fun e W' => e = .returned (.bool true) ∧ Below W.heap.size W W' := by
  obtain ⟨c, A0, A1, A2, c0, c1, c2, rfl, _, hm, r0, r1, r2, n0, n1, n2⟩ := open_conf hv0 h0 hs0
  exact confCopies_walk c A0 A1 A2 c0 c1 c2 W hm r0 r1 r2 n0 n1 n2
end Go.Proofs.Ytfgiehfiieecoaa
