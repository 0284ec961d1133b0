/- Flows, as plain data; what the document says of them. -/
import Derived.Test.YtdbbmjdeeenlhaaL10
namespace Go.Proofs.Ytdbbmjdeeenlhaa
open Go.RowKit

structure Mx where
  field : Int
  mask : Int
  value : Int
structure Dx where
  kind : Int
  a : Int
  n : Int
structure Fl where
  table : Int
  prio : Int
  ms : List Mx
  ds : List Dx
def encMx (m : Mx) : List FV := [.int .i64 m.field, .int .i64 m.mask, .int .i64 m.value]
def encDx (d : Dx) : List FV := [.int .i64 d.kind, .int .i64 d.a, .int .i64 d.n]
def encFl (f : Fl) : List FV := [.int .i64 f.table, .int .i64 f.prio, slOf encMx f.ms, slOf encDx f.ds]
def encFr (f : Fr) : List FV := [.int .i64 f.dst, .int .i64 f.src, .int .i64 f.kind, .int .i64 f.ipSrc, .int .i64 f.ipDst, .int .i64 f.ttl, .int .i64 f.port, .str f.body]
def encPk (p : Pk) : List FV := [.int .i64 p.f0, .int .i64 p.f1, .int .i64 p.f2, .int .i64 p.f3, .int .i64 p.f4, .int .i64 p.f5, .int .i64 p.f6, .int .i64 p.f7, .int .i64 p.f8, .int .i64 p.f9, .str p.body]
theorem encMx_len (m : Mx) : (encMx m).length = 3 := rfl
theorem encDx_len (m : Dx) : (encDx m).length = 3 := rfl
theorem encFl_len (m : Fl) : (encFl m).length = 4 := rfl

/-- P2.1: may a thing be done by a flow of a table? -/
def dxMay (d : Dx) (table : Int) (last : Bool) : Bool :=
  if d.kind = 1 then inR d.a 0 9 && word d.n
  else if d.kind = 2 then inR d.a 0 9 && inR d.n 0 9
  else if d.kind = 3 then inR d.a 0 9 && decide (d.n = 0)
  else if d.kind = 4 then decide (d.a = 0) && inR d.n (table + 1) 7 && last
  else if d.kind = 5 then decide (d.a = 0) && word d.n
  else if d.kind = 6 then decide (d.a = 0) && inR d.n 0 5
  else false
/-- P2.1: the bits of a number that a mask has. -/
def maskd (n m : Int) : Int := ((n.toNat &&& m.toNat : Nat) : Int)
def mxOk (m : Mx) : Bool := inR m.field 0 9 && word m.mask && word m.value && decide (maskd m.value m.mask = m.value)
def dxOk (table : Int) : List Dx → Bool
  | [] => true
  | d :: l => dxMay d table l.isEmpty && dxOk table l
def flFault (f : Fl) : Int :=
  if 12 < f.ms.length ∨ 100 < f.ds.length then 1
  else if inR f.table 0 7 = false ∨ inR f.prio 0 2000 = false then 2
  else if f.ms.all mxOk = false then 4
  else if dxOk f.table f.ds = false then 4
  else 0
def flsFault : List Fl → Int
  | [] => 0
  | f :: l => if flFault f = 0 then flsFault l else flFault f
def flowsFault (l : List Fl) : Int := if 5000 < l.length then 1 else flsFault l

theorem flsFault_take {l : List Fl} {k : Nat} (h : ∀ j f, l[j]? = some f → j < k → flFault f = 0) : flsFault l = flsFault (l.drop k) := by
  induction l generalizing k with
  | nil => simp
  | cons f l ih =>
    cases k with
    | zero => rfl
    | succ k =>
      have h0 := h 0 f rfl (by omega)
      rw [List.drop_succ_cons, ← ih (fun j g hj hk => h (j + 1) g (by simpa using hj) (by omega)), flsFault, if_pos h0]
theorem flsFault_at {l : List Fl} {k : Nat} {f : Fl} (hk : l[k]? = some f) (h : flsFault l = flsFault (l.drop k)) : flsFault l = if flFault f = 0 then flsFault (l.drop (k + 1)) else flFault f := by
  rw [h]
  have hlt := (List.getElem?_eq_some_iff.1 hk).1
  have : l.drop k = f :: l.drop (k + 1) := by rw [List.drop_eq_getElem_cons hlt, (List.getElem?_eq_some_iff.1 hk).2]
  rw [this, flsFault]
theorem dxOk_at {t : Int} {l : List Dx} {k : Nat} {d : Dx} (hk : l[k]? = some d) : dxOk t (l.drop k) = (dxMay d t (decide (k + 1 = l.length)) && dxOk t (l.drop (k + 1))) := by
  have hlt := (List.getElem?_eq_some_iff.1 hk).1
  have e : l.drop k = d :: l.drop (k + 1) := by rw [List.drop_eq_getElem_cons hlt, (List.getElem?_eq_some_iff.1 hk).2]
  rw [e, dxOk]
  congr 2
  rw [Bool.eq_iff_iff]
  simp [List.isEmpty_iff, List.drop_eq_nil_iff]
  omega
theorem maskd_le (n m : Int) : 0 ≤ maskd n m ∧ (0 ≤ n → maskd n m ≤ n) := by
  unfold maskd
  have := Nat.and_le_left (n := n.toNat) (m := m.toNat)
  omega
theorem and_step (a k : Nat) : a % 2 ^ (k + 1) = a % 2 ^ k + (if a.testBit k then 2 ^ k else 0) := by
  rw [Nat.mod_pow_succ, Nat.testBit_eq_decide_div_mod_eq]
  by_cases h : a / 2 ^ k % 2 = 1
  · simp [h]
  · have : a / 2 ^ k % 2 = 0 := by omega
    simp [this]
end Go.Proofs.Ytdbbmjdeeenlhaa
