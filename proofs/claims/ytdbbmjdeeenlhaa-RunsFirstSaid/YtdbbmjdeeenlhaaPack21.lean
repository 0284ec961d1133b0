/- What is wanted, as plain data; what the document says of it. -/
import Derived.Test.YtdbbmjdeeenlhaaPack18
import Derived.Test.YtdbbmjdeeenlhaaPack13
import Derived.Test.YtdbbmjdeeenlhaaPack20
import Derived.Test.YtdbbmjdeeenlhaaPack11
set_option linter.unusedSimpArgs false
set_option linter.unusedVariables false
namespace Go.Proofs.Ytdbbmjdeeenlhaa
open Go.RowKit

def encSw (x : Sw) : List FV := [.int .i64 x.id, .int .i64 x.tenant, .int .i64 x.gate]
def encPo (x : Po) : List FV := [.int .i64 x.id, .int .i64 x.sw, .int .i64 x.mac, .int .i64 x.ip, .int .i64 x.ch]
def encAc (x : Ac) : List FV := [.int .i64 x.sw, .int .i64 x.prio, .bool x.inn, .int .i64 x.src, .int .i64 x.srcBits, .int .i64 x.dst, .int .i64 x.dstBits, .int .i64 x.port, .bool x.deny]
def encCf (c : Cf) : List FV := [slOf encSw c.ss, slOf encPo c.ps, slOf encAc c.acs]
theorem encSw_len (x : Sw) : (encSw x).length = 3 := rfl
theorem encPo_len (x : Po) : (encPo x).length = 5 := rfl
theorem encAc_len (x : Ac) : (encAc x).length = 9 := rfl

/-- The place of the first that fits; -1: there is none. -/
def idxB {α : Type} (p : α → Bool) : List α → Int
  | [] => -1
  | x :: l => if p x = true then 0 else if idxB p l < 0 then -1 else idxB p l + 1
theorem idxB_ge {α : Type} (p : α → Bool) : ∀ l : List α, -1 ≤ idxB p l ∧ idxB p l < l.length
  | [] => by simp [idxB]
  | x :: l => by
    have := idxB_ge p l
    simp only [idxB, List.length_cons]
    split
    · omega
    · split <;> omega
theorem idxB_any {α : Type} (p : α → Bool) : ∀ l : List α, (idxB p l < 0 ↔ l.any p = false)
  | [] => by simp [idxB]
  | x :: l => by
    have := idxB_any p l
    have h2 := idxB_ge p l
    simp only [idxB, List.any_cons]
    split
    · rename_i h
      simp [h]
    · rename_i h
      have h3 : p x = false := by simpa using h
      rw [h3, Bool.false_or, ← this]
      split <;> omega
theorem idxB_at {α : Type} (p : α → Bool) : ∀ (l : List α) (k : Nat), idxB p l = (k : Int) → ∃ x, l[k]? = some x ∧ p x = true ∧ l.find? p = some x
  | [], k, h => by simp [idxB] at h
  | x :: l, k, h => by
    have h2 := idxB_ge p l
    simp only [idxB] at h
    split at h
    · rename_i hx
      obtain rfl : k = 0 := by omega
      exact ⟨x, rfl, hx, by simp [hx]⟩
    · rename_i hx
      split at h
      · omega
      · obtain ⟨y, h3, h4, h5⟩ := idxB_at p l (k - 1) (by omega)
        obtain ⟨j, rfl⟩ : ∃ j, k = j + 1 := ⟨k - 1, by omega⟩
        exact ⟨y, by simpa using h3, h4, by simp [hx, h5]⟩
theorem idxB_take {α : Type} (p : α → Bool) : ∀ (l : List α) (k : Nat), (∀ x ∈ l.take k, p x = false) → (∀ x, l[k]? = some x → p x = true) → k < l.length → idxB p l = k
  | [], k, _, _, h => by simp at h
  | x :: l, 0, _, h2, _ => by simp [idxB, h2 x rfl]
  | x :: l, k + 1, h1, h2, h3 => by
    have h4 := idxB_take p l k (fun y hy => h1 y (by simp [hy])) (fun y hy => h2 y (by simpa using hy)) (by simpa using h3)
    have h5 := h1 x (by simp)
    simp only [idxB, h5]
    rw [h4]
    simp
    omega
theorem idxB_none {α : Type} (p : α → Bool) (l : List α) (h : ∀ x ∈ l, p x = false) : idxB p l = -1 := by
  have h1 := idxB_ge p l
  have := (idxB_any p l).2 (by simpa using h)
  omega

/-- The tenant of a switch of this number. -/
def tenantAt (ss : List Sw) (id : Int) : Int := match ss.find? (fun s => s.id == id) with
  | some s => s.tenant
  | none => 0
/-- P3.1: has something of a tenant that number? -/
def takenB (c : Cf) (tenant ip : Int) : Bool := c.ss.any (fun s => s.tenant == tenant && s.gate == ip) || c.ps.any (fun p => p.ip == ip && tenantAt c.ss p.sw == tenant)
def swFault (c : Cf) (s : Sw) : Int :=
  if inR s.id 1 500 = false ∨ inR s.tenant 1 9 = false ∨ inR s.gate 0 65535 = false then 2
  else if c.ss.any (fun x => x.id == s.id) = true ∨ (0 < s.gate ∧ takenB c s.tenant s.gate = true) then 7
  else if 12 ≤ c.ss.length then 1
  else 0
def poFault (c : Cf) (p : Po) : Int :=
  if inR p.id 1 999 = false ∨ inR p.mac 1 59999 = false ∨ inR p.ip 1 65535 = false ∨ inR p.ch (-1) 5 = false then 2
  else if c.ss.any (fun x => x.id == p.sw) = false then 6
  else if c.ps.any (fun q => q.id == p.id || (q.sw == p.sw && q.mac == p.mac)) = true then 7
  else if takenB c (tenantAt c.ss p.sw) p.ip = true then 7
  else if 40 ≤ c.ps.length then 1
  else 0
/-- P3.1: what one of so many highest bits makes out. -/
def unitOf (bits : Int) : Int := 2 ^ (16 - bits.toNat)
def acFault (c : Cf) (a : Ac) : Int :=
  if inR a.prio 0 1000 = false ∨ inR a.src 0 65535 = false ∨ inR a.dst 0 65535 = false ∨ inR a.srcBits 0 16 = false ∨ inR a.dstBits 0 16 = false ∨ inR a.port (-1) 65535 = false then 2
  else if a.src % unitOf a.srcBits ≠ 0 ∨ a.dst % unitOf a.dstBits ≠ 0 then 4
  else if c.ss.any (fun x => x.id == a.sw) = false then 6
  else if 40 ≤ c.acs.length then 1
  else 0
/-- What may be, one after the other. -/
def swsMay (c : Cf) : List Sw → Bool
  | [] => true
  | s :: l => decide (swFault c s = 0) && swsMay { c with ss := c.ss ++ [s] } l
def posMay (c : Cf) : List Po → Bool
  | [] => true
  | s :: l => decide (poFault c s = 0) && posMay { c with ps := c.ps ++ [s] } l
def acsMay (c : Cf) : List Ac → Bool
  | [] => true
  | s :: l => decide (acFault c s = 0) && acsMay { c with acs := c.acs ++ [s] } l
def cfMay (c : Cf) : Bool := swsMay ⟨[], [], []⟩ c.ss && posMay ⟨c.ss, [], []⟩ c.ps && acsMay ⟨c.ss, c.ps, []⟩ c.acs
/-- Each port's switch is there. -/
def Cf.Wf (c : Cf) : Prop := ∀ p ∈ c.ps, c.ss.any (fun x => x.id == p.sw) = true
end Go.Proofs.Ytdbbmjdeeenlhaa

/- Flows, frames and packets that came in, as data by value. -/
namespace Go.Proofs.Ytdbbmjdeeenlhaa
open Go.ChangeShapes Go.WideShapes Go.ChangeAt Go.RowKit Go.Deep
set_option maxRecDepth 100000

def Mx.Ok (m : Mx) : Prop := I64 m.field ∧ I64 m.mask ∧ I64 m.value
def Dx.Ok (d : Dx) : Prop := I64 d.kind ∧ I64 d.a ∧ I64 d.n
def Fl.Ok (f : Fl) : Prop := I64 f.table ∧ I64 f.prio ∧ (∀ x ∈ f.ms, x.Ok) ∧ (∀ x ∈ f.ds, x.Ok) ∧ f.ms.length * 24 ≤ reachBytes ∧ f.ds.length * 24 ≤ reachBytes
def leaves3 : List Leaf := [.int, .int, .int]
def flLeaves : List Leaf := [.int, .int, .slice 31, .slice 34]
theorem mtx_leaves : leaves Try.prog 2 30 = some leaves3 := by kernel_rfl
theorem dsx_leaves : leaves Try.prog 2 33 = some leaves3 := by kernel_rfl
theorem fl_leaves : leaves Try.prog 2 36 = some flLeaves := by kernel_rfl
theorem mtx_cellsOf : Try.prog.cellsOf 30 = 3 := by kernel_rfl
theorem dsx_cellsOf : Try.prog.cellsOf 33 = 3 := by kernel_rfl
theorem fl_cellsOf : Try.prog.cellsOf 36 = 4 := by kernel_rfl
theorem mtx_bytes : Try.prog.bytesOf 30 = 24 := by kernel_rfl
theorem dsx_bytes : Try.prog.bytesOf 33 = 24 := by kernel_rfl
theorem fl_bytes : Try.prog.bytesOf 36 = 64 := by kernel_rfl

section
variable {H : Type} {enc : TypeId × Value → H} {P : Program} {w : World} {base : Nat} {spare : Nat → Bool} {held : Bool} {Cl : TypeId → DataW H → Prop}
theorem mtx_rep {cs : List Value} (h : AllOk enc P w base spare held Cl leaves3 cs) : ∃ m : Mx, m.Ok ∧ RepF w (encMx m) cs := by
  match cs, h.length with
  | [c0, c1, c2], _ =>
    obtain ⟨⟨a0, rfl, b0⟩, ⟨a1, rfl, b1⟩, ⟨a2, rfl, b2⟩, _⟩ := h
    exact ⟨⟨a0, a1, a2⟩, ⟨b0, b1, b2⟩, fun _ => ⟨rfl, rfl, rfl, trivial⟩⟩
theorem dsx_rep {cs : List Value} (h : AllOk enc P w base spare held Cl leaves3 cs) : ∃ m : Dx, m.Ok ∧ RepF w (encDx m) cs := by
  match cs, h.length with
  | [c0, c1, c2], _ =>
    obtain ⟨⟨a0, rfl, b0⟩, ⟨a1, rfl, b1⟩, ⟨a2, rfl, b2⟩, _⟩ := h
    exact ⟨⟨a0, a1, a2⟩, ⟨b0, b1, b2⟩, fun _ => ⟨rfl, rfl, rfl, trivial⟩⟩
theorem fl_rep {cs : List Value} (h : AllOk enc Try.prog w base spare held (SizedCl Try.prog) flLeaves cs) : ∃ f : Fl, f.Ok ∧ RepF w (encFl f) cs := by
  match cs, h.length with
  | [c0, c1, c2, c3], _ =>
    obtain ⟨⟨a0, rfl, b0⟩, ⟨a1, rfl, b1⟩, l2, l3, _⟩ := h
    obtain ⟨ms, o2, n2, r2⟩ := open_sl Try.underlying31 mtx_leaves mtx_cellsOf rfl (by omega) mtx_bytes (fun _ h => mtx_rep h) l2
    obtain ⟨ds, o3, n3, r3⟩ := open_sl Try.underlying34 dsx_leaves dsx_cellsOf rfl (by omega) dsx_bytes (fun _ h => dsx_rep h) l3
    exact ⟨⟨a0, a1, ms, ds⟩, ⟨b0, b1, o2, o3, n2, n3⟩, repF_cons rfl (repF_cons rfl (repF_cons r2 (repF_cons r3 repF_nil)))⟩
theorem open_flows {v : Value} {d : DataW H} {p : List MemPlace} {r : Reach} {b0 : Nat} (hv : Value.okWide Try.prog w r b0 37 v) (h : DataW.Trod enc Try.prog w base spare held 37 v d p) (hs : SizedCl Try.prog 37 d) :
    ∃ l : List Fl, (∀ x ∈ l, x.Ok) ∧ l.length * 64 ≤ reachBytes ∧ (slOf encFl l).Rep (fun b => b < w.heap.size) w v :=
  open_sl_arg Try.underlying37 fl_leaves fl_cellsOf rfl (by omega) fl_bytes (fun _ h => fl_rep h) hv h hs
theorem fr_repF {f : Fr} (h : f.Ok) : RepF w (encFr f) f.cells := fun _ => ⟨rfl, rfl, rfl, rfl, rfl, rfl, rfl, ⟨rfl, h.2.2.2.2.2.2.2⟩, trivial⟩
theorem pk_repF {f : Pk} (h : f.Ok) : RepF w (encPk f) f.cells := fun _ => ⟨rfl, rfl, rfl, rfl, rfl, rfl, rfl, rfl, rfl, rfl, ⟨rfl, h.2.2.2.2.2.2.2.2.2.2⟩, trivial⟩
end
end Go.Proofs.Ytdbbmjdeeenlhaa
