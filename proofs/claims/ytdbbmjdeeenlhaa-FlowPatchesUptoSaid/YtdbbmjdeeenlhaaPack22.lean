/- What is wanted, as plain data; what the document says of it. -/
import Derived.Test.YtdbbmjdeeenlhaaPack20
import Derived.Test.YtdbbmjdeeenlhaaPack14
import Derived.Test.YtdbbmjdeeenlhaaPack19
import Derived.Test.YtdbbmjdeeenlhaaPack21
import Derived.Test.YtdbbmjdeeenlhaaPack12
set_option linter.unusedSimpArgs false
set_option linter.unusedVariables false
namespace Go.Proofs.Ytdbbmjdeeenlhaa
open Go.RowKit

def encSw (x : Sw) : List FV := [.int .i64 x.id, .int .i64 x.tenant, .int .i64 x.gate]
def encPo (x : Po) : List FV := [.int .i64 x.id, .int .i64 x.sw, .int .i64 x.mac, .int .i64 x.ip, .int .i64 x.ch]
def encAc (x : Ac) : List FV := [.int .i64 x.sw, .int .i64 x.prio, .bool x.inn, .int .i64 x.src, .int .i64 x.srcBits, .int .i64 x.dst, .int .i64 x.dstBits, .int .i64 x.port, .bool x.deny]
def encCf (c : Cf) : List FV := [slOf encSw c.ss, slOf encPo c.ps, slOf encAc c.acs]
theorem encSw_len (x : Sw) : (encSw x).length = 3 := rfl
theorem encPo_len (x : Po) : (encPo x).length = 5 := rfl
theorem encAc_len (x : Ac) : (encAc x).length = 9 := rfl

/-- The place of the first that fits; -1: there is none. -/
def idxB {α : Type} (p : α → Bool) : List α → Int
  | [] => -1
  | x :: l => if p x = true then 0 else if idxB p l < 0 then -1 else idxB p l + 1
theorem idxB_ge {α : Type} (p : α → Bool) : ∀ l : List α, -1 ≤ idxB p l ∧ idxB p l < l.length
  | [] => by simp [idxB]
  | x :: l => by
    have := idxB_ge p l
    simp only [idxB, List.length_cons]
    split
    · omega
    · split <;> omega
theorem idxB_any {α : Type} (p : α → Bool) : ∀ l : List α, (idxB p l < 0 ↔ l.any p = false)
  | [] => by simp [idxB]
  | x :: l => by
    have := idxB_any p l
    have h2 := idxB_ge p l
    simp only [idxB, List.any_cons]
    split
    · rename_i h
      simp [h]
    · rename_i h
      have h3 : p x = false := by simpa using h
      rw [h3, Bool.false_or, ← this]
      split <;> omega
theorem idxB_at {α : Type} (p : α → Bool) : ∀ (l : List α) (k : Nat), idxB p l = (k : Int) → ∃ x, l[k]? = some x ∧ p x = true ∧ l.find? p = some x
  | [], k, h => by simp [idxB] at h
  | x :: l, k, h => by
    have h2 := idxB_ge p l
    simp only [idxB] at h
    split at h
    · rename_i hx
      obtain rfl : k = 0 := by omega
      exact ⟨x, rfl, hx, by simp [hx]⟩
    · rename_i hx
      split at h
      · omega
      · obtain ⟨y, h3, h4, h5⟩ := idxB_at p l (k - 1) (by omega)
        obtain ⟨j, rfl⟩ : ∃ j, k = j + 1 := ⟨k - 1, by omega⟩
        exact ⟨y, by simpa using h3, h4, by simp [hx, h5]⟩
theorem idxB_take {α : Type} (p : α → Bool) : ∀ (l : List α) (k : Nat), (∀ x ∈ l.take k, p x = false) → (∀ x, l[k]? = some x → p x = true) → k < l.length → idxB p l = k
  | [], k, _, _, h => by simp at h
  | x :: l, 0, _, h2, _ => by simp [idxB, h2 x rfl]
  | x :: l, k + 1, h1, h2, h3 => by
    have h4 := idxB_take p l k (fun y hy => h1 y (by simp [hy])) (fun y hy => h2 y (by simpa using hy)) (by simpa using h3)
    have h5 := h1 x (by simp)
    simp only [idxB, h5]
    rw [h4]
    simp
    omega
theorem idxB_none {α : Type} (p : α → Bool) (l : List α) (h : ∀ x ∈ l, p x = false) : idxB p l = -1 := by
  have h1 := idxB_ge p l
  have := (idxB_any p l).2 (by simpa using h)
  omega

/-- The tenant of a switch of this number. -/
def tenantAt (ss : List Sw) (id : Int) : Int := match ss.find? (fun s => s.id == id) with
  | some s => s.tenant
  | none => 0
/-- P3.1: has something of a tenant that number? -/
def takenB (c : Cf) (tenant ip : Int) : Bool := c.ss.any (fun s => s.tenant == tenant && s.gate == ip) || c.ps.any (fun p => p.ip == ip && tenantAt c.ss p.sw == tenant)
def swFault (c : Cf) (s : Sw) : Int :=
  if inR s.id 1 500 = false ∨ inR s.tenant 1 9 = false ∨ inR s.gate 0 65535 = false then 2
  else if c.ss.any (fun x => x.id == s.id) = true ∨ (0 < s.gate ∧ takenB c s.tenant s.gate = true) then 7
  else if 12 ≤ c.ss.length then 1
  else 0
def poFault (c : Cf) (p : Po) : Int :=
  if inR p.id 1 999 = false ∨ inR p.mac 1 59999 = false ∨ inR p.ip 1 65535 = false ∨ inR p.ch (-1) 5 = false then 2
  else if c.ss.any (fun x => x.id == p.sw) = false then 6
  else if c.ps.any (fun q => q.id == p.id || (q.sw == p.sw && q.mac == p.mac)) = true then 7
  else if takenB c (tenantAt c.ss p.sw) p.ip = true then 7
  else if 40 ≤ c.ps.length then 1
  else 0
/-- P3.1: what one of so many highest bits makes out. -/
def unitOf (bits : Int) : Int := 2 ^ (16 - bits.toNat)
def acFault (c : Cf) (a : Ac) : Int :=
  if inR a.prio 0 1000 = false ∨ inR a.src 0 65535 = false ∨ inR a.dst 0 65535 = false ∨ inR a.srcBits 0 16 = false ∨ inR a.dstBits 0 16 = false ∨ inR a.port (-1) 65535 = false then 2
  else if a.src % unitOf a.srcBits ≠ 0 ∨ a.dst % unitOf a.dstBits ≠ 0 then 4
  else if c.ss.any (fun x => x.id == a.sw) = false then 6
  else if 40 ≤ c.acs.length then 1
  else 0
/-- What may be, one after the other. -/
def swsMay (c : Cf) : List Sw → Bool
  | [] => true
  | s :: l => decide (swFault c s = 0) && swsMay { c with ss := c.ss ++ [s] } l
def posMay (c : Cf) : List Po → Bool
  | [] => true
  | s :: l => decide (poFault c s = 0) && posMay { c with ps := c.ps ++ [s] } l
def acsMay (c : Cf) : List Ac → Bool
  | [] => true
  | s :: l => decide (acFault c s = 0) && acsMay { c with acs := c.acs ++ [s] } l
def cfMay (c : Cf) : Bool := swsMay ⟨[], [], []⟩ c.ss && posMay ⟨c.ss, [], []⟩ c.ps && acsMay ⟨c.ss, c.ps, []⟩ c.acs
/-- Each port's switch is there. -/
def Cf.Wf (c : Cf) : Prop := ∀ p ∈ c.ps, c.ss.any (fun x => x.id == p.sw) = true
end Go.Proofs.Ytdbbmjdeeenlhaa

/- Acts that change what is wanted, as plain data; what they come to. -/
namespace Go.Proofs.Ytdbbmjdeeenlhaa
open Go.RowKit

structure De where
  kind : Int
  sw : Sw
  po : Po
  ac : Ac
  n : Int
  m : Int
  fr : Fr
def encDe (a : De) : List FV := [.int .i64 a.kind] ++ encSw a.sw ++ encPo a.po ++ encAc a.ac ++ [.int .i64 a.n, .int .i64 a.m] ++ encFr a.fr
theorem encDe_len (x : De) : (encDe x).length = 28 := rfl
def sw0 : Sw := ⟨0, 0, 0⟩
def po0 : Po := ⟨0, 0, 0, 0, 0⟩
def ac0 : Ac := ⟨0, 0, false, 0, 0, 0, 0, 0, false⟩
def frZ : Fr := ⟨0, 0, 0, 0, 0, 0, 0, ⟨#[]⟩⟩
def de0 : De := ⟨0, sw0, po0, ac0, 0, 0, frZ⟩
def cf0 : Cf := ⟨[], [], []⟩
def portB (n : Int) : Po → Bool := fun p => p.id == n

/-- P3.5: what is wrong with an act. -/
def applyE (c : Cf) (a : De) : Int :=
  if cfMay c = false then 8
  else if a.kind = 1 then swFault c a.sw
  else if a.kind = 2 then poFault c a.po
  else if a.kind = 3 then acFault c a.ac
  else if a.kind = 4 ∨ a.kind = 6 then (if idxB (fun p => p.id == a.n) c.ps < 0 then 6 else if a.kind = 6 ∧ inR a.m (-1) 5 = false then 2 else 0)
  else if a.kind = 5 then (if a.n < 0 ∨ (c.acs.length : Int) ≤ a.n then 6 else 0)
  else 3
/-- What is wanted behind it. -/
def applyC (c : Cf) (a : De) : Cf :=
  if a.kind = 1 then { c with ss := c.ss ++ [a.sw] }
  else if a.kind = 2 then { c with ps := c.ps ++ [a.po] }
  else if a.kind = 3 then { c with acs := c.acs ++ [a.ac] }
  else if a.kind = 4 then { c with ps := c.ps.eraseIdx (idxB (fun p => p.id == a.n) c.ps).toNat }
  else if a.kind = 6 then { c with ps := c.ps.modify (idxB (fun p => p.id == a.n) c.ps).toNat fun p => { p with ch := a.m } }
  else { c with acs := c.acs.eraseIdx a.n.toNat }
def applyR (c : Cf) (a : De) : Cf := if applyE c a ≠ 0 then cf0 else applyC c a

theorem swFault_lt {c : Cf} {s : Sw} (h : swFault c s = 0) : c.ss.length < 12 := by
  unfold swFault at h
  repeat' split at h
  all_goals first | omega | (exfalso; omega)
theorem poFault_lt {c : Cf} {s : Po} (h : poFault c s = 0) : c.ps.length < 40 ∧ c.ss.any (fun x => x.id == s.sw) = true := by
  unfold poFault at h
  repeat' split at h
  any_goals (exfalso; omega)
  rename_i h1 h2 h3
  exact ⟨by omega, by simpa using ‹¬ (c.ss.any (fun x => x.id == s.sw) = false)›⟩
theorem acFault_lt {c : Cf} {s : Ac} (h : acFault c s = 0) : c.acs.length < 40 := by
  unfold acFault at h
  repeat' split at h
  all_goals first | omega | (exfalso; omega)
theorem swsMay_len : ∀ {l : List Sw} {c : Cf}, swsMay c l = true → l = [] ∨ c.ss.length + l.length ≤ 12
  | [], _, _ => .inl rfl
  | s :: l, c, h => by
    simp only [swsMay, Bool.and_eq_true, decide_eq_true_eq] at h
    have h1 := swFault_lt h.1
    rcases swsMay_len h.2 with rfl | h2
    · right; simp; omega
    · right; simp at h2 ⊢; omega
theorem posMay_len : ∀ {l : List Po} {c : Cf}, posMay c l = true → (l = [] ∨ c.ps.length + l.length ≤ 40) ∧ ∀ p ∈ l, c.ss.any (fun x => x.id == p.sw) = true
  | [], _, _ => ⟨.inl rfl, by simp⟩
  | s :: l, c, h => by
    simp only [posMay, Bool.and_eq_true, decide_eq_true_eq] at h
    have h1 := poFault_lt h.1
    obtain ⟨h2, h3⟩ := posMay_len h.2
    refine ⟨.inr ?_, fun p hp => ?_⟩
    · rcases h2 with rfl | h2
      · simp; omega
      · simp at h2 ⊢; omega
    · rcases List.mem_cons.1 hp with rfl | hp
      · exact h1.2
      · exact h3 p hp
theorem acsMay_len : ∀ {l : List Ac} {c : Cf}, acsMay c l = true → l = [] ∨ c.acs.length + l.length ≤ 40
  | [], _, _ => .inl rfl
  | s :: l, c, h => by
    simp only [acsMay, Bool.and_eq_true, decide_eq_true_eq] at h
    have h1 := acFault_lt h.1
    rcases acsMay_len h.2 with rfl | h2
    · right; simp; omega
    · right; simp at h2 ⊢; omega
structure CfLen (c : Cf) : Prop where
  ss : c.ss.length ≤ 12
  ps : c.ps.length ≤ 40
  acs : c.acs.length ≤ 40
  wf : c.Wf
theorem cfMay_len {c : Cf} (h : cfMay c = true) : CfLen c := by
  simp only [cfMay, Bool.and_eq_true] at h
  have h1 := swsMay_len h.1.1
  have h2 := posMay_len h.1.2
  have h3 := acsMay_len h.2
  refine ⟨?_, ?_, ?_, h2.2⟩
  · rcases h1 with h | h
    · rw [h]; simp
    · simpa using h
  · rcases h2.1 with h | h
    · rw [h]; simp
    · simpa using h
  · rcases h3 with h | h
    · rw [h]; simp
    · simpa using h
/-- The fault of one port, that of an act: how they hang on the kind. -/
theorem applyE_bad {c : Cf} {a : De} (h : cfMay c = false) : applyE c a = 8 := if_pos h
theorem applyR_bad {c : Cf} {a : De} (h : applyE c a ≠ 0) : applyR c a = cf0 := if_pos h
theorem applyR_ok {c : Cf} {a : De} (h : applyE c a = 0) : applyR c a = applyC c a := if_neg (by omega)
end Go.Proofs.Ytdbbmjdeeenlhaa

/- Flows, frames and packets that came in, as data by value. -/
namespace Go.Proofs.Ytdbbmjdeeenlhaa
open Go.ChangeShapes Go.WideShapes Go.ChangeAt Go.RowKit Go.Deep
set_option maxRecDepth 100000

def Mx.Ok (m : Mx) : Prop := I64 m.field ∧ I64 m.mask ∧ I64 m.value
def Dx.Ok (d : Dx) : Prop := I64 d.kind ∧ I64 d.a ∧ I64 d.n
def Fl.Ok (f : Fl) : Prop := I64 f.table ∧ I64 f.prio ∧ (∀ x ∈ f.ms, x.Ok) ∧ (∀ x ∈ f.ds, x.Ok) ∧ f.ms.length * 24 ≤ reachBytes ∧ f.ds.length * 24 ≤ reachBytes
def leaves3 : List Leaf := [.int, .int, .int]
def flLeaves : List Leaf := [.int, .int, .slice 31, .slice 34]
theorem mtx_leaves : leaves Try.prog 2 30 = some leaves3 := by kernel_rfl
theorem dsx_leaves : leaves Try.prog 2 33 = some leaves3 := by kernel_rfl
theorem fl_leaves : leaves Try.prog 2 36 = some flLeaves := by kernel_rfl
theorem mtx_cellsOf : Try.prog.cellsOf 30 = 3 := by kernel_rfl
theorem dsx_cellsOf : Try.prog.cellsOf 33 = 3 := by kernel_rfl
theorem fl_cellsOf : Try.prog.cellsOf 36 = 4 := by kernel_rfl
theorem mtx_bytes : Try.prog.bytesOf 30 = 24 := by kernel_rfl
theorem dsx_bytes : Try.prog.bytesOf 33 = 24 := by kernel_rfl
theorem fl_bytes : Try.prog.bytesOf 36 = 64 := by kernel_rfl

section
variable {H : Type} {enc : TypeId × Value → H} {P : Program} {w : World} {base : Nat} {spare : Nat → Bool} {held : Bool} {Cl : TypeId → DataW H → Prop}
theorem mtx_rep {cs : List Value} (h : AllOk enc P w base spare held Cl leaves3 cs) : ∃ m : Mx, m.Ok ∧ RepF w (encMx m) cs := by
  match cs, h.length with
  | [c0, c1, c2], _ =>
    obtain ⟨⟨a0, rfl, b0⟩, ⟨a1, rfl, b1⟩, ⟨a2, rfl, b2⟩, _⟩ := h
    exact ⟨⟨a0, a1, a2⟩, ⟨b0, b1, b2⟩, fun _ => ⟨rfl, rfl, rfl, trivial⟩⟩
theorem dsx_rep {cs : List Value} (h : AllOk enc P w base spare held Cl leaves3 cs) : ∃ m : Dx, m.Ok ∧ RepF w (encDx m) cs := by
  match cs, h.length with
  | [c0, c1, c2], _ =>
    obtain ⟨⟨a0, rfl, b0⟩, ⟨a1, rfl, b1⟩, ⟨a2, rfl, b2⟩, _⟩ := h
    exact ⟨⟨a0, a1, a2⟩, ⟨b0, b1, b2⟩, fun _ => ⟨rfl, rfl, rfl, trivial⟩⟩
theorem fl_rep {cs : List Value} (h : AllOk enc Try.prog w base spare held (SizedCl Try.prog) flLeaves cs) : ∃ f : Fl, f.Ok ∧ RepF w (encFl f) cs := by
  match cs, h.length with
  | [c0, c1, c2, c3], _ =>
    obtain ⟨⟨a0, rfl, b0⟩, ⟨a1, rfl, b1⟩, l2, l3, _⟩ := h
    obtain ⟨ms, o2, n2, r2⟩ := open_sl Try.underlying31 mtx_leaves mtx_cellsOf rfl (by omega) mtx_bytes (fun _ h => mtx_rep h) l2
    obtain ⟨ds, o3, n3, r3⟩ := open_sl Try.underlying34 dsx_leaves dsx_cellsOf rfl (by omega) dsx_bytes (fun _ h => dsx_rep h) l3
    exact ⟨⟨a0, a1, ms, ds⟩, ⟨b0, b1, o2, o3, n2, n3⟩, repF_cons rfl (repF_cons rfl (repF_cons r2 (repF_cons r3 repF_nil)))⟩
theorem open_flows {v : Value} {d : DataW H} {p : List MemPlace} {r : Reach} {b0 : Nat} (hv : Value.okWide Try.prog w r b0 37 v) (h : DataW.Trod enc Try.prog w base spare held 37 v d p) (hs : SizedCl Try.prog 37 d) :
    ∃ l : List Fl, (∀ x ∈ l, x.Ok) ∧ l.length * 64 ≤ reachBytes ∧ (slOf encFl l).Rep (fun b => b < w.heap.size) w v :=
  open_sl_arg Try.underlying37 fl_leaves fl_cellsOf rfl (by omega) fl_bytes (fun _ h => fl_rep h) hv h hs
theorem fr_repF {f : Fr} (h : f.Ok) : RepF w (encFr f) f.cells := fun _ => ⟨rfl, rfl, rfl, rfl, rfl, rfl, rfl, ⟨rfl, h.2.2.2.2.2.2.2⟩, trivial⟩
theorem pk_repF {f : Pk} (h : f.Ok) : RepF w (encPk f) f.cells := fun _ => ⟨rfl, rfl, rfl, rfl, rfl, rfl, rfl, rfl, rfl, rfl, ⟨rfl, h.2.2.2.2.2.2.2.2.2.2⟩, trivial⟩
end
end Go.Proofs.Ytdbbmjdeeenlhaa
