/- What is wanted, as plain data; what the document says of it. -/
import Derived.Test.YtdbbmjdeeenlhaaPack19
import Derived.Test.YtdbbmjdeeenlhaaPack14
import Derived.Test.YtdbbmjdeeenlhaaPack20
import Derived.Test.YtdbbmjdeeenlhaaPack21
import Derived.Test.YtdbbmjdeeenlhaaPack12
set_option linter.unusedSimpArgs false
set_option linter.unusedVariables false
namespace Go.Proofs.Ytdbbmjdeeenlhaa
open Go.RowKit

def encSw (x : Sw) : List FV := [.int .i64 x.id, .int .i64 x.tenant, .int .i64 x.gate]
def encPo (x : Po) : List FV := [.int .i64 x.id, .int .i64 x.sw, .int .i64 x.mac, .int .i64 x.ip, .int .i64 x.ch]
def encAc (x : Ac) : List FV := [.int .i64 x.sw, .int .i64 x.prio, .bool x.inn, .int .i64 x.src, .int .i64 x.srcBits, .int .i64 x.dst, .int .i64 x.dstBits, .int .i64 x.port, .bool x.deny]
def encCf (c : Cf) : List FV := [slOf encSw c.ss, slOf encPo c.ps, slOf encAc c.acs]
theorem encSw_len (x : Sw) : (encSw x).length = 3 := rfl
theorem encPo_len (x : Po) : (encPo x).length = 5 := rfl
theorem encAc_len (x : Ac) : (encAc x).length = 9 := rfl

/-- The place of the first that fits; -1: there is none. -/
def idxB {α : Type} (p : α → Bool) : List α → Int
  | [] => -1
  | x :: l => if p x = true then 0 else if idxB p l < 0 then -1 else idxB p l + 1
theorem idxB_ge {α : Type} (p : α → Bool) : ∀ l : List α, -1 ≤ idxB p l ∧ idxB p l < l.length
  | [] => by simp [idxB]
  | x :: l => by
    have := idxB_ge p l
    simp only [idxB, List.length_cons]
    split
    · omega
    · split <;> omega
theorem idxB_any {α : Type} (p : α → Bool) : ∀ l : List α, (idxB p l < 0 ↔ l.any p = false)
  | [] => by simp [idxB]
  | x :: l => by
    have := idxB_any p l
    have h2 := idxB_ge p l
    simp only [idxB, List.any_cons]
    split
    · rename_i h
      simp [h]
    · rename_i h
      have h3 : p x = false := by simpa using h
      rw [h3, Bool.false_or, ← this]
      split <;> omega
theorem idxB_at {α : Type} (p : α → Bool) : ∀ (l : List α) (k : Nat), idxB p l = (k : Int) → ∃ x, l[k]? = some x ∧ p x = true ∧ l.find? p = some x
  | [], k, h => by simp [idxB] at h
  | x :: l, k, h => by
    have h2 := idxB_ge p l
    simp only [idxB] at h
    split at h
    · rename_i hx
      obtain rfl : k = 0 := by omega
      exact ⟨x, rfl, hx, by simp [hx]⟩
    · rename_i hx
      split at h
      · omega
      · obtain ⟨y, h3, h4, h5⟩ := idxB_at p l (k - 1) (by omega)
        obtain ⟨j, rfl⟩ : ∃ j, k = j + 1 := ⟨k - 1, by omega⟩
        exact ⟨y, by simpa using h3, h4, by simp [hx, h5]⟩
theorem idxB_take {α : Type} (p : α → Bool) : ∀ (l : List α) (k : Nat), (∀ x ∈ l.take k, p x = false) → (∀ x, l[k]? = some x → p x = true) → k < l.length → idxB p l = k
  | [], k, _, _, h => by simp at h
  | x :: l, 0, _, h2, _ => by simp [idxB, h2 x rfl]
  | x :: l, k + 1, h1, h2, h3 => by
    have h4 := idxB_take p l k (fun y hy => h1 y (by simp [hy])) (fun y hy => h2 y (by simpa using hy)) (by simpa using h3)
    have h5 := h1 x (by simp)
    simp only [idxB, h5]
    rw [h4]
    simp
    omega
theorem idxB_none {α : Type} (p : α → Bool) (l : List α) (h : ∀ x ∈ l, p x = false) : idxB p l = -1 := by
  have h1 := idxB_ge p l
  have := (idxB_any p l).2 (by simpa using h)
  omega

/-- The tenant of a switch of this number. -/
def tenantAt (ss : List Sw) (id : Int) : Int := match ss.find? (fun s => s.id == id) with
  | some s => s.tenant
  | none => 0
/-- P3.1: has something of a tenant that number? -/
def takenB (c : Cf) (tenant ip : Int) : Bool := c.ss.any (fun s => s.tenant == tenant && s.gate == ip) || c.ps.any (fun p => p.ip == ip && tenantAt c.ss p.sw == tenant)
def swFault (c : Cf) (s : Sw) : Int :=
  if inR s.id 1 500 = false ∨ inR s.tenant 1 9 = false ∨ inR s.gate 0 65535 = false then 2
  else if c.ss.any (fun x => x.id == s.id) = true ∨ (0 < s.gate ∧ takenB c s.tenant s.gate = true) then 7
  else if 12 ≤ c.ss.length then 1
  else 0
def poFault (c : Cf) (p : Po) : Int :=
  if inR p.id 1 999 = false ∨ inR p.mac 1 59999 = false ∨ inR p.ip 1 65535 = false ∨ inR p.ch (-1) 5 = false then 2
  else if c.ss.any (fun x => x.id == p.sw) = false then 6
  else if c.ps.any (fun q => q.id == p.id || (q.sw == p.sw && q.mac == p.mac)) = true then 7
  else if takenB c (tenantAt c.ss p.sw) p.ip = true then 7
  else if 40 ≤ c.ps.length then 1
  else 0
/-- P3.1: what one of so many highest bits makes out. -/
def unitOf (bits : Int) : Int := 2 ^ (16 - bits.toNat)
def acFault (c : Cf) (a : Ac) : Int :=
  if inR a.prio 0 1000 = false ∨ inR a.src 0 65535 = false ∨ inR a.dst 0 65535 = false ∨ inR a.srcBits 0 16 = false ∨ inR a.dstBits 0 16 = false ∨ inR a.port (-1) 65535 = false then 2
  else if a.src % unitOf a.srcBits ≠ 0 ∨ a.dst % unitOf a.dstBits ≠ 0 then 4
  else if c.ss.any (fun x => x.id == a.sw) = false then 6
  else if 40 ≤ c.acs.length then 1
  else 0
/-- What may be, one after the other. -/
def swsMay (c : Cf) : List Sw → Bool
  | [] => true
  | s :: l => decide (swFault c s = 0) && swsMay { c with ss := c.ss ++ [s] } l
def posMay (c : Cf) : List Po → Bool
  | [] => true
  | s :: l => decide (poFault c s = 0) && posMay { c with ps := c.ps ++ [s] } l
def acsMay (c : Cf) : List Ac → Bool
  | [] => true
  | s :: l => decide (acFault c s = 0) && acsMay { c with acs := c.acs ++ [s] } l
def cfMay (c : Cf) : Bool := swsMay ⟨[], [], []⟩ c.ss && posMay ⟨c.ss, [], []⟩ c.ps && acsMay ⟨c.ss, c.ps, []⟩ c.acs
/-- Each port's switch is there. -/
def Cf.Wf (c : Cf) : Prop := ∀ p ∈ c.ps, c.ss.any (fun x => x.id == p.sw) = true
end Go.Proofs.Ytdbbmjdeeenlhaa

/- Acts that change what is wanted, as plain data; what they come to. -/
namespace Go.Proofs.Ytdbbmjdeeenlhaa
open Go.RowKit

structure De where
  kind : Int
  sw : Sw
  po : Po
  ac : Ac
  n : Int
  m : Int
  fr : Fr
def encDe (a : De) : List FV := [.int .i64 a.kind] ++ encSw a.sw ++ encPo a.po ++ encAc a.ac ++ [.int .i64 a.n, .int .i64 a.m] ++ encFr a.fr
theorem encDe_len (x : De) : (encDe x).length = 28 := rfl
def sw0 : Sw := ⟨0, 0, 0⟩
def po0 : Po := ⟨0, 0, 0, 0, 0⟩
def ac0 : Ac := ⟨0, 0, false, 0, 0, 0, 0, 0, false⟩
def frZ : Fr := ⟨0, 0, 0, 0, 0, 0, 0, ⟨#[]⟩⟩
def de0 : De := ⟨0, sw0, po0, ac0, 0, 0, frZ⟩
def cf0 : Cf := ⟨[], [], []⟩
def portB (n : Int) : Po → Bool := fun p => p.id == n

/-- P3.5: what is wrong with an act. -/
def applyE (c : Cf) (a : De) : Int :=
  if cfMay c = false then 8
  else if a.kind = 1 then swFault c a.sw
  else if a.kind = 2 then poFault c a.po
  else if a.kind = 3 then acFault c a.ac
  else if a.kind = 4 ∨ a.kind = 6 then (if idxB (fun p => p.id == a.n) c.ps < 0 then 6 else if a.kind = 6 ∧ inR a.m (-1) 5 = false then 2 else 0)
  else if a.kind = 5 then (if a.n < 0 ∨ (c.acs.length : Int) ≤ a.n then 6 else 0)
  else 3
/-- What is wanted behind it. -/
def applyC (c : Cf) (a : De) : Cf :=
  if a.kind = 1 then { c with ss := c.ss ++ [a.sw] }
  else if a.kind = 2 then { c with ps := c.ps ++ [a.po] }
  else if a.kind = 3 then { c with acs := c.acs ++ [a.ac] }
  else if a.kind = 4 then { c with ps := c.ps.eraseIdx (idxB (fun p => p.id == a.n) c.ps).toNat }
  else if a.kind = 6 then { c with ps := c.ps.modify (idxB (fun p => p.id == a.n) c.ps).toNat fun p => { p with ch := a.m } }
  else { c with acs := c.acs.eraseIdx a.n.toNat }
def applyR (c : Cf) (a : De) : Cf := if applyE c a ≠ 0 then cf0 else applyC c a

theorem swFault_lt {c : Cf} {s : Sw} (h : swFault c s = 0) : c.ss.length < 12 := by
  unfold swFault at h
  repeat' split at h
  all_goals first | omega | (exfalso; omega)
theorem poFault_lt {c : Cf} {s : Po} (h : poFault c s = 0) : c.ps.length < 40 ∧ c.ss.any (fun x => x.id == s.sw) = true := by
  unfold poFault at h
  repeat' split at h
  any_goals (exfalso; omega)
  rename_i h1 h2 h3
  exact ⟨by omega, by simpa using ‹¬ (c.ss.any (fun x => x.id == s.sw) = false)›⟩
theorem acFault_lt {c : Cf} {s : Ac} (h : acFault c s = 0) : c.acs.length < 40 := by
  unfold acFault at h
  repeat' split at h
  all_goals first | omega | (exfalso; omega)
theorem swsMay_len : ∀ {l : List Sw} {c : Cf}, swsMay c l = true → l = [] ∨ c.ss.length + l.length ≤ 12
  | [], _, _ => .inl rfl
  | s :: l, c, h => by
    simp only [swsMay, Bool.and_eq_true, decide_eq_true_eq] at h
    have h1 := swFault_lt h.1
    rcases swsMay_len h.2 with rfl | h2
    · right; simp; omega
    · right; simp at h2 ⊢; omega
theorem posMay_len : ∀ {l : List Po} {c : Cf}, posMay c l = true → (l = [] ∨ c.ps.length + l.length ≤ 40) ∧ ∀ p ∈ l, c.ss.any (fun x => x.id == p.sw) = true
  | [], _, _ => ⟨.inl rfl, by simp⟩
  | s :: l, c, h => by
    simp only [posMay, Bool.and_eq_true, decide_eq_true_eq] at h
    have h1 := poFault_lt h.1
    obtain ⟨h2, h3⟩ := posMay_len h.2
    refine ⟨.inr ?_, fun p hp => ?_⟩
    · rcases h2 with rfl | h2
      · simp; omega
      · simp at h2 ⊢; omega
    · rcases List.mem_cons.1 hp with rfl | hp
      · exact h1.2
      · exact h3 p hp
theorem acsMay_len : ∀ {l : List Ac} {c : Cf}, acsMay c l = true → l = [] ∨ c.acs.length + l.length ≤ 40
  | [], _, _ => .inl rfl
  | s :: l, c, h => by
    simp only [acsMay, Bool.and_eq_true, decide_eq_true_eq] at h
    have h1 := acFault_lt h.1
    rcases acsMay_len h.2 with rfl | h2
    · right; simp; omega
    · right; simp at h2 ⊢; omega
structure CfLen (c : Cf) : Prop where
  ss : c.ss.length ≤ 12
  ps : c.ps.length ≤ 40
  acs : c.acs.length ≤ 40
  wf : c.Wf
theorem cfMay_len {c : Cf} (h : cfMay c = true) : CfLen c := by
  simp only [cfMay, Bool.and_eq_true] at h
  have h1 := swsMay_len h.1.1
  have h2 := posMay_len h.1.2
  have h3 := acsMay_len h.2
  refine ⟨?_, ?_, ?_, h2.2⟩
  · rcases h1 with h | h
    · rw [h]; simp
    · simpa using h
  · rcases h2.1 with h | h
    · rw [h]; simp
    · simpa using h
  · rcases h3 with h | h
    · rw [h]; simp
    · simpa using h
/-- The fault of one port, that of an act: how they hang on the kind. -/
theorem applyE_bad {c : Cf} {a : De} (h : cfMay c = false) : applyE c a = 8 := if_pos h
theorem applyR_bad {c : Cf} {a : De} (h : applyE c a ≠ 0) : applyR c a = cf0 := if_pos h
theorem applyR_ok {c : Cf} {a : De} (h : applyE c a = 0) : applyR c a = applyC c a := if_neg (by omega)
end Go.Proofs.Ytdbbmjdeeenlhaa

/- An act that changes what is wanted: the two ways to say it come to the same. -/
namespace Go.Proofs.Ytdbbmjdeeenlhaa
open Go.RowKit

/-- A port behind an act, if it stays. -/
def keepP (a : De) (p : Po) : Option Po := if p.id = a.n then (if a.kind = 4 then none else some { p with ch := a.m }) else some p
/-- The document's answer, when there is nothing wrong. -/
def applyD (c : Cf) (a : De) : Cf :=
  if a.kind = 1 then { c with ss := c.ss ++ [a.sw] }
  else if a.kind = 2 then { c with ps := c.ps ++ [a.po] }
  else if a.kind = 3 then { c with acs := c.acs ++ [a.ac] }
  else if a.kind = 4 ∨ a.kind = 6 then { c with ps := c.ps.filterMap (keepP a) }
  else { c with acs := c.acs.eraseIdx a.n.toNat }
theorem poFault_new {c : Cf} {s : Po} (h : poFault c s = 0) : ∀ q ∈ c.ps, q.id ≠ s.id ∧ ¬ (q.sw = s.sw ∧ q.mac = s.mac) := by
  unfold poFault at h
  repeat' split at h
  any_goals (exfalso; omega)
  intro q hq
  have h3 : c.ps.any (fun q => q.id == s.id || (q.sw == s.sw && q.mac == s.mac)) = false := by
    rename_i h3 _ _
    simpa using h3
  have := List.any_eq_false.1 h3 q hq
  simp at this
  exact ⟨this.1, fun h => this.2 h.1 h.2⟩
theorem posMay_pw : ∀ {l : List Po} {c : Cf}, posMay c l = true → (∀ q ∈ c.ps, ∀ p ∈ l, q.id ≠ p.id ∧ ¬ (q.sw = p.sw ∧ q.mac = p.mac)) ∧ l.Pairwise fun q p => q.id ≠ p.id ∧ ¬ (q.sw = p.sw ∧ q.mac = p.mac)
  | [], _, _ => ⟨by simp, .nil⟩
  | s :: l, c, h => by
    simp only [posMay, Bool.and_eq_true, decide_eq_true_eq] at h
    have h1 := poFault_new h.1
    obtain ⟨h2, h3⟩ := posMay_pw h.2
    refine ⟨fun q hq p hp => ?_, ?_⟩
    · rcases List.mem_cons.1 hp with rfl | hp
      · exact h1 q hq
      · exact h2 q (by simp [hq]) p hp
    · exact List.pairwise_cons.2 ⟨fun p hp => h2 s (by simp) p hp, h3⟩
theorem cfMay_ids {c : Cf} (h : cfMay c = true) : c.ps.Pairwise fun q p => q.id ≠ p.id ∧ ¬ (q.sw = p.sw ∧ q.mac = p.mac) := by
  simp only [cfMay, Bool.and_eq_true] at h
  exact (posMay_pw h.1.2).2
theorem keep_none {a : De} : ∀ {l : List Po}, (∀ p ∈ l, p.id ≠ a.n) → l.filterMap (keepP a) = l
  | [], _ => rfl
  | x :: l, h => by
    have hx : keepP a x = some x := by rw [keepP, if_neg (h x (by simp))]
    rw [List.filterMap_cons, hx, keep_none fun p hp => h p (by simp [hp])]
theorem keep_at {a : De} : ∀ {l : List Po} {i : Nat}, (l.Pairwise fun q p => q.id ≠ p.id ∧ ¬ (q.sw = p.sw ∧ q.mac = p.mac)) → idxB (fun p => p.id == a.n) l = (i : Int) →
    l.filterMap (keepP a) = if a.kind = 4 then l.eraseIdx i else l.modify i fun p => { p with ch := a.m }
  | [], i, _, h => by simp [idxB] at h
  | x :: l, i, hp, h => by
    have hge := idxB_ge (fun p : Po => p.id == a.n) l
    obtain ⟨h1, h2⟩ := List.pairwise_cons.1 hp
    simp only [idxB] at h
    by_cases hx : x.id = a.n
    · simp only [hx, beq_self_eq_true, if_true] at h
      obtain rfl : i = 0 := by omega
      rw [List.filterMap_cons]
      have hn : l.filterMap (keepP a) = l := keep_none fun p hp => by have := (h1 p hp).1; rw [hx] at this; exact fun e => this e.symm
      rw [hn, keepP, if_pos hx]
      by_cases hk : a.kind = 4
      · simp [hk]
      · simp [hk]
    · simp only [beq_iff_eq, hx, if_false] at h
      split at h
      · omega
      · obtain ⟨j, rfl⟩ : ∃ j, i = j + 1 := ⟨i - 1, by omega⟩
        rw [List.filterMap_cons, keepP, if_neg hx, keep_at h2 (show idxB (fun p : Po => p.id == a.n) l = (j : Int) by omega)]
        by_cases hk : a.kind = 4
        · simp [hk]
        · simp [hk]
theorem applyD_eq {c : Cf} {a : De} (hm : cfMay c = true) (h : applyE c a = 0) : applyD c a = applyC c a := by
  unfold applyD applyC
  rw [applyE, if_neg (by rw [hm]; decide)] at h
  by_cases k1 : a.kind = 1
  · rw [if_pos k1, if_pos k1]
  by_cases k2 : a.kind = 2
  · rw [if_neg k1, if_pos k2, if_neg k1, if_pos k2]
  by_cases k3 : a.kind = 3
  · rw [if_neg k1, if_neg k2, if_pos k3, if_neg k1, if_neg k2, if_pos k3]
  rw [if_neg k1, if_neg k2, if_neg k3, if_neg k1, if_neg k2, if_neg k3]
  rw [if_neg k1, if_neg k2, if_neg k3] at h
  by_cases k46 : a.kind = 4 ∨ a.kind = 6
  · rw [if_pos k46]
    rw [if_pos k46] at h
    split at h
    · omega
    · rename_i h0
      obtain ⟨i, hi⟩ : ∃ i : Nat, idxB (fun p => p.id == a.n) c.ps = i := ⟨_, (Int.toNat_of_nonneg (Int.not_lt.1 h0)).symm⟩
      rw [keep_at (cfMay_ids hm) hi, hi, Int.toNat_natCast]
      rcases k46 with k | k
      · rw [if_pos k, if_pos k]
      · rw [if_neg (by omega), if_neg (by omega), if_pos k]
  · rw [if_neg k46]
    rw [if_neg k46] at h
    rw [if_neg (fun h => k46 (.inl h)), if_neg (fun h => k46 (.inr h))]
end Go.Proofs.Ytdbbmjdeeenlhaa

/- What may be wanted, said of all of it at once; acts keep it. -/
namespace Go.Proofs.Ytdbbmjdeeenlhaa
open Go.RowKit

def SwR (s : Sw) : Prop := (1 ≤ s.id ∧ s.id ≤ 500) ∧ (1 ≤ s.tenant ∧ s.tenant ≤ 9) ∧ (0 ≤ s.gate ∧ s.gate ≤ 65535)
def SwD (x s : Sw) : Prop := x.id ≠ s.id ∧ ¬ (0 < s.gate ∧ x.tenant = s.tenant ∧ x.gate = s.gate)
def PoR (p : Po) : Prop := (1 ≤ p.id ∧ p.id ≤ 999) ∧ (1 ≤ p.mac ∧ p.mac ≤ 59999) ∧ (1 ≤ p.ip ∧ p.ip ≤ 65535) ∧ (-1 ≤ p.ch ∧ p.ch ≤ 5)
def AcR (a : Ac) : Prop := ((0 ≤ a.prio ∧ a.prio ≤ 1000) ∧ (0 ≤ a.src ∧ a.src ≤ 65535) ∧ (0 ≤ a.dst ∧ a.dst ≤ 65535) ∧ (0 ≤ a.srcBits ∧ a.srcBits ≤ 16) ∧ (0 ≤ a.dstBits ∧ a.dstBits ≤ 16) ∧ (-1 ≤ a.port ∧ a.port ≤ 65535)) ∧ a.src % unitOf a.srcBits = 0 ∧ a.dst % unitOf a.dstBits = 0
def hasSw (ss : List Sw) (id : Int) : Prop := ∃ s ∈ ss, s.id = id
theorem hasSw_any {ss : List Sw} {id : Int} : ss.any (fun x => x.id == id) = true ↔ hasSw ss id := by simp [hasSw]
theorem hasSw_not {ss : List Sw} {id : Int} : ss.any (fun x => x.id == id) = false ↔ ¬ hasSw ss id := by rw [← hasSw_any]; simp
theorem swFault0 {c : Cf} {s : Sw} : swFault c s = 0 ↔ SwR s ∧ (∀ x ∈ c.ss, SwD x s) ∧ (0 < s.gate → ∀ p ∈ c.ps, ¬ (p.ip = s.gate ∧ tenantAt c.ss p.sw = s.tenant)) ∧ c.ss.length < 12 := by
  unfold swFault
  by_cases h1 : inR s.id 1 500 = false ∨ inR s.tenant 1 9 = false ∨ inR s.gate 0 65535 = false
  · rw [if_pos h1]
    simp only [inR_not] at h1
    refine ⟨fun h => by omega, fun ⟨h, _⟩ => ?_⟩
    unfold SwR at h
    omega
  · rw [if_neg h1]
    have hr : SwR s := by simp only [inR_not] at h1; unfold SwR; omega
    by_cases h2 : c.ss.any (fun x => x.id == s.id) = true ∨ (0 < s.gate ∧ takenB c s.tenant s.gate = true)
    · rw [if_pos h2]
      refine ⟨fun h => by omega, fun ⟨_, h3, h4, _⟩ => ?_⟩
      exfalso
      rcases h2 with h2 | ⟨h5, h6⟩
      · obtain ⟨x, hx, e⟩ := hasSw_any.1 h2
        exact (h3 x hx).1 e
      · simp only [takenB, Bool.or_eq_true, List.any_eq_true, Bool.and_eq_true, beq_iff_eq] at h6
        rcases h6 with ⟨x, hx, e⟩ | ⟨p, hp, e⟩
        · exact (h3 x hx).2 ⟨h5, e.1, e.2⟩
        · exact h4 h5 p hp e
    · rw [if_neg h2]
      have h3 : ¬ hasSw c.ss s.id := hasSw_not.1 (by simpa using fun h => h2 (.inl h))
      have h4 : 0 < s.gate → takenB c s.tenant s.gate = false := fun h => by simpa using fun h' => h2 (.inr ⟨h, h'⟩)
      have h5 : (∀ x ∈ c.ss, SwD x s) ∧ (0 < s.gate → ∀ p ∈ c.ps, ¬ (p.ip = s.gate ∧ tenantAt c.ss p.sw = s.tenant)) := by
        simp only [takenB, Bool.or_eq_false_iff, List.any_eq_false, Bool.and_eq_true, beq_iff_eq] at h4
        exact ⟨fun x hx => ⟨fun e => h3 ⟨x, hx, e⟩, fun ⟨h, e⟩ => (h4 h).1 x hx e⟩, fun h p hp => (h4 h).2 p hp⟩
      split
      · exact ⟨fun h => by omega, fun ⟨_, _, _, h⟩ => by omega⟩
      · exact ⟨fun _ => ⟨hr, h5.1, h5.2, by omega⟩, fun _ => rfl⟩
def PoD (ss : List Sw) (y x : Po) : Prop := y.id ≠ x.id ∧ ¬ (y.sw = x.sw ∧ y.mac = x.mac) ∧ ¬ (y.ip = x.ip ∧ tenantAt ss y.sw = tenantAt ss x.sw)
def PoG (ss : List Sw) (x : Po) : Prop := PoR x ∧ hasSw ss x.sw ∧ ∀ s ∈ ss, ¬ (s.tenant = tenantAt ss x.sw ∧ s.gate = x.ip)
theorem poFault0 {c : Cf} {p : Po} : poFault c p = 0 ↔ PoG c.ss p ∧ (∀ q ∈ c.ps, PoD c.ss q p) ∧ c.ps.length < 40 := by
  unfold poFault
  by_cases h1 : inR p.id 1 999 = false ∨ inR p.mac 1 59999 = false ∨ inR p.ip 1 65535 = false ∨ inR p.ch (-1) 5 = false
  · rw [if_pos h1]
    simp only [inR_not] at h1
    refine ⟨fun h => by omega, fun ⟨⟨h, _⟩, _⟩ => ?_⟩
    unfold PoR at h
    omega
  rw [if_neg h1]
  have hr : PoR p := by simp only [inR_not] at h1; unfold PoR; omega
  by_cases h2 : c.ss.any (fun x => x.id == p.sw) = false
  · rw [if_pos h2]
    exact ⟨fun h => by omega, fun ⟨⟨_, h, _⟩, _⟩ => absurd h (hasSw_not.1 h2)⟩
  rw [if_neg h2]
  have h2' : hasSw c.ss p.sw := hasSw_any.1 (by simpa using h2)
  by_cases h3 : c.ps.any (fun q => q.id == p.id || (q.sw == p.sw && q.mac == p.mac)) = true
  · rw [if_pos h3]
    refine ⟨fun h => by omega, fun ⟨_, h, _⟩ => ?_⟩
    simp only [List.any_eq_true, Bool.or_eq_true, Bool.and_eq_true, beq_iff_eq] at h3
    obtain ⟨q, hq, e⟩ := h3
    rcases e with e | e
    · exact absurd e (h q hq).1
    · exact absurd e (h q hq).2.1
  rw [if_neg h3]
  have h3' : ∀ q ∈ c.ps, q.id ≠ p.id ∧ ¬ (q.sw = p.sw ∧ q.mac = p.mac) := fun q hq => by
    refine ⟨fun e => h3 (List.any_eq_true.2 ⟨q, hq, by simp [e]⟩), fun e => h3 (List.any_eq_true.2 ⟨q, hq, by simp [e]⟩)⟩
  by_cases h4 : takenB c (tenantAt c.ss p.sw) p.ip = true
  · rw [if_pos h4]
    refine ⟨fun h => by omega, fun ⟨⟨_, _, h⟩, h', _⟩ => ?_⟩
    exfalso
    simp only [takenB, Bool.or_eq_true, List.any_eq_true, Bool.and_eq_true, beq_iff_eq] at h4
    rcases h4 with ⟨x, hx, e⟩ | ⟨q, hq, e⟩
    · exact h x hx e
    · exact (h' q hq).2.2 e
  rw [if_neg h4]
  have h4' : (∀ s ∈ c.ss, ¬ (s.tenant = tenantAt c.ss p.sw ∧ s.gate = p.ip)) ∧ ∀ q ∈ c.ps, ¬ (q.ip = p.ip ∧ tenantAt c.ss q.sw = tenantAt c.ss p.sw) := by
    have : takenB c (tenantAt c.ss p.sw) p.ip = false := by simpa using h4
    simp only [takenB, Bool.or_eq_false_iff, List.any_eq_false, Bool.and_eq_true, beq_iff_eq] at this
    exact this
  split
  · exact ⟨fun h => by omega, fun ⟨_, _, h⟩ => by omega⟩
  · exact ⟨fun _ => ⟨⟨hr, h2', h4'.1⟩, fun q hq => ⟨(h3' q hq).1, (h3' q hq).2, h4'.2 q hq⟩, by omega⟩, fun _ => rfl⟩
theorem acFault0 {c : Cf} {a : Ac} : acFault c a = 0 ↔ (AcR a ∧ hasSw c.ss a.sw) ∧ c.acs.length < 40 := by
  unfold acFault
  by_cases h1 : inR a.prio 0 1000 = false ∨ inR a.src 0 65535 = false ∨ inR a.dst 0 65535 = false ∨ inR a.srcBits 0 16 = false ∨ inR a.dstBits 0 16 = false ∨ inR a.port (-1) 65535 = false
  · rw [if_pos h1]
    simp only [inR_not] at h1
    refine ⟨fun h => by omega, fun ⟨⟨⟨h, _⟩, _⟩, _⟩ => ?_⟩
    omega
  rw [if_neg h1]
  simp only [inR_not] at h1
  by_cases h2 : a.src % unitOf a.srcBits ≠ 0 ∨ a.dst % unitOf a.dstBits ≠ 0
  · rw [if_pos h2]
    refine ⟨fun h => by omega, fun ⟨⟨⟨_, h, h'⟩, _⟩, _⟩ => ?_⟩
    rcases h2 with h2 | h2
    · exact absurd h h2
    · exact absurd h' h2
  rw [if_neg h2]
  have h2' : a.src % unitOf a.srcBits = 0 ∧ a.dst % unitOf a.dstBits = 0 := ⟨Decidable.not_not.1 fun h => h2 (.inl h), Decidable.not_not.1 fun h => h2 (.inr h)⟩
  by_cases h3 : c.ss.any (fun x => x.id == a.sw) = false
  · rw [if_pos h3]
    exact ⟨fun h => by omega, fun ⟨⟨_, h⟩, _⟩ => absurd h (hasSw_not.1 h3)⟩
  rw [if_neg h3]
  have h3' : hasSw c.ss a.sw := hasSw_any.1 (by simpa using h3)
  split
  · exact ⟨fun h => by omega, fun ⟨_, h⟩ => by omega⟩
  · exact ⟨fun _ => ⟨⟨⟨by omega, h2'⟩, h3'⟩, by omega⟩, fun _ => rfl⟩

theorem swsMay_iff : ∀ (l pre : List Sw), swsMay ⟨pre, [], []⟩ l = true ↔ (∀ x ∈ l, SwR x) ∧ (∀ y ∈ pre, ∀ x ∈ l, SwD y x) ∧ l.Pairwise SwD ∧ (l = [] ∨ pre.length + l.length ≤ 12)
  | [], _ => by simp [swsMay]
  | s :: l, pre => by
    have ih := swsMay_iff l (pre ++ [s])
    simp only [swsMay, Bool.and_eq_true, decide_eq_true_eq, swFault0]
    rw [show ({ ss := pre ++ [s], ps := [], acs := [] } : Cf) = ⟨pre ++ [s], [], []⟩ from rfl, ih]
    simp only [List.mem_cons, List.pairwise_cons, List.mem_append, List.length_append, List.length_cons, List.length_nil]
    constructor
    · rintro ⟨⟨h1, h2, _, h3⟩, h4, h5, h6, h7⟩
      refine ⟨?_, ?_, ⟨fun x hx => h5 s (.inr (.inl rfl)) x hx, h6⟩, .inr ?_⟩
      · rintro x (rfl | hx)
        · exact h1
        · exact h4 x hx
      · rintro y hy x (rfl | hx)
        · exact h2 y hy
        · exact h5 y (.inl hy) x hx
      · rcases h7 with rfl | h7
        · simp; omega
        · omega
    · rintro ⟨h1, h2, ⟨h3, h4⟩, h5⟩
      have h5 : pre.length + (l.length + 1) ≤ 12 := by
        rcases h5 with h5 | h5
        · cases h5
        · exact h5
      refine ⟨⟨h1 s (.inl rfl), fun x hx => h2 x hx s (.inl rfl), (fun _ p hp => by cases hp), by omega⟩, fun x hx => h1 x (.inr hx), ?_, h4, ?_⟩
      · rintro y (hy | hy | hy) x hx
        · exact h2 y hy x (.inr hx)
        · subst hy; exact h3 x hx
        · cases hy
      · cases l with
        | nil => exact .inl rfl
        | cons => right; omega
theorem posMay_iff (ss : List Sw) : ∀ (l pre : List Po), posMay ⟨ss, pre, []⟩ l = true ↔ (∀ x ∈ l, PoG ss x) ∧ (∀ y ∈ pre, ∀ x ∈ l, PoD ss y x) ∧ l.Pairwise (PoD ss) ∧ (l = [] ∨ pre.length + l.length ≤ 40)
  | [], _ => by simp [posMay]
  | s :: l, pre => by
    have ih := posMay_iff ss l (pre ++ [s])
    simp only [posMay, Bool.and_eq_true, decide_eq_true_eq, poFault0]
    rw [show ({ ss := ss, ps := pre ++ [s], acs := [] } : Cf) = ⟨ss, pre ++ [s], []⟩ from rfl, ih]
    simp only [List.mem_cons, List.pairwise_cons, List.mem_append, List.length_append, List.length_cons, List.length_nil]
    constructor
    · rintro ⟨⟨h1, h2, h3⟩, h4, h5, h6, h7⟩
      refine ⟨?_, ?_, ⟨fun x hx => h5 s (.inr (.inl rfl)) x hx, h6⟩, .inr ?_⟩
      · rintro x (rfl | hx)
        · exact h1
        · exact h4 x hx
      · rintro y hy x (rfl | hx)
        · exact h2 y hy
        · exact h5 y (.inl hy) x hx
      · rcases h7 with rfl | h7
        · simp; omega
        · omega
    · rintro ⟨h1, h2, ⟨h3, h4⟩, h5⟩
      have h5 : pre.length + (l.length + 1) ≤ 40 := by
        rcases h5 with h5 | h5
        · cases h5
        · exact h5
      refine ⟨⟨h1 s (.inl rfl), fun x hx => h2 x hx s (.inl rfl), by omega⟩, fun x hx => h1 x (.inr hx), ?_, h4, ?_⟩
      · rintro y (hy | hy | hy) x hx
        · exact h2 y hy x (.inr hx)
        · subst hy; exact h3 x hx
        · cases hy
      · cases l with
        | nil => exact .inl rfl
        | cons => right; omega
theorem acsMay_iff (ss : List Sw) (ps : List Po) : ∀ (l pre : List Ac), acsMay ⟨ss, ps, pre⟩ l = true ↔ (∀ x ∈ l, AcR x ∧ hasSw ss x.sw) ∧ (l = [] ∨ pre.length + l.length ≤ 40)
  | [], _ => by simp [acsMay]
  | s :: l, pre => by
    have ih := acsMay_iff ss ps l (pre ++ [s])
    simp only [acsMay, Bool.and_eq_true, decide_eq_true_eq, acFault0]
    rw [show ({ ss := ss, ps := ps, acs := pre ++ [s] } : Cf) = ⟨ss, ps, pre ++ [s]⟩ from rfl, ih]
    simp only [List.mem_cons, List.length_append, List.length_cons, List.length_nil]
    constructor
    · rintro ⟨⟨h1, h3⟩, h4, h7⟩
      refine ⟨?_, .inr ?_⟩
      · rintro x (rfl | hx)
        · exact h1
        · exact h4 x hx
      · rcases h7 with rfl | h7
        · simp; omega
        · omega
    · rintro ⟨h1, h5⟩
      have h5 : pre.length + (l.length + 1) ≤ 40 := by
        rcases h5 with h5 | h5
        · cases h5
        · exact h5
      refine ⟨⟨h1 s (.inl rfl), by omega⟩, fun x hx => h1 x (.inr hx), ?_⟩
      cases l with
      | nil => exact .inl rfl
      | cons => right; omega
/-- What may be wanted. -/
structure CfOk (c : Cf) : Prop where
  sr : ∀ x ∈ c.ss, SwR x
  sd : c.ss.Pairwise SwD
  sl : c.ss.length ≤ 12
  pg : ∀ x ∈ c.ps, PoG c.ss x
  pd : c.ps.Pairwise (PoD c.ss)
  pl : c.ps.length ≤ 40
  ar : ∀ x ∈ c.acs, AcR x ∧ hasSw c.ss x.sw
  al : c.acs.length ≤ 40
theorem le_or_nil {α : Type} {l : List α} {n : Nat} : (l = [] ∨ ([] : List α).length + l.length ≤ n) ↔ l.length ≤ n := by
  constructor
  · rintro (rfl | h)
    · simp
    · simpa using h
  · intro h
    right
    simpa using h
theorem cfMay_iff {c : Cf} : cfMay c = true ↔ CfOk c := by
  unfold cfMay
  rw [Bool.and_eq_true, Bool.and_eq_true, swsMay_iff, posMay_iff, acsMay_iff]
  have e1 : (c.ss = [] ∨ ([] : List Sw).length + c.ss.length ≤ 12) ↔ c.ss.length ≤ 12 := le_or_nil
  have e2 : (c.ps = [] ∨ ([] : List Po).length + c.ps.length ≤ 40) ↔ c.ps.length ≤ 40 := le_or_nil
  have e3 : (c.acs = [] ∨ ([] : List Ac).length + c.acs.length ≤ 40) ↔ c.acs.length ≤ 40 := le_or_nil
  rw [e1, e2, e3]
  constructor
  · rintro ⟨⟨⟨h1, _, h2, h3⟩, h4, _, h5, h6⟩, h7, h8⟩
    exact ⟨h1, h2, h3, h4, h5, h6, h7, h8⟩
  · rintro ⟨h1, h2, h3, h4, h5, h6, h7, h8⟩
    exact ⟨⟨⟨h1, by simp, h2, h3⟩, h4, by simp, h5, h6⟩, h7, h8⟩
theorem hasSw_app {ss : List Sw} {s : Sw} {id : Int} (h : hasSw ss id) : hasSw (ss ++ [s]) id := by
  obtain ⟨x, hx, e⟩ := h
  exact ⟨x, by simp [hx], e⟩
theorem tenantAt_app {ss : List Sw} {s : Sw} {id : Int} (h : hasSw ss id) : tenantAt (ss ++ [s]) id = tenantAt ss id := by
  unfold tenantAt
  rw [List.find?_append]
  cases e : ss.find? (fun s => s.id == id) with
  | some x => rfl
  | none =>
    obtain ⟨x, hx, e2⟩ := h
    have := List.find?_eq_none.1 e x hx
    simp [e2] at this
theorem PoG.ch {ss : List Sw} {p : Po} {m : Int} (h : PoG ss p) (hm : -1 ≤ m ∧ m ≤ 5) : PoG ss { p with ch := m } := ⟨⟨h.1.1, h.1.2.1, h.1.2.2.1, hm⟩, h.2.1, h.2.2⟩
theorem pw_modify {α : Type} {R : α → α → Prop} {f : α → α} (h1 : ∀ a b, R a b → R (f a) b) (h2 : ∀ a b, R a b → R a (f b)) : ∀ (l : List α) (i : Nat), l.Pairwise R → (l.modify i f).Pairwise R
  | [], i, h => by simp
  | x :: l, 0, h => by
    obtain ⟨h3, h4⟩ := List.pairwise_cons.1 h
    rw [List.modify_zero_cons]
    exact List.pairwise_cons.2 ⟨fun y hy => h1 _ _ (h3 y hy), h4⟩
  | x :: l, i + 1, h => by
    obtain ⟨h3, h4⟩ := List.pairwise_cons.1 h
    rw [List.modify_succ_cons]
    refine List.pairwise_cons.2 ⟨fun y hy => ?_, pw_modify h1 h2 l i h4⟩
    rw [List.mem_iff_getElem?] at hy
    obtain ⟨j, hj⟩ := hy
    rw [List.getElem?_modify] at hj
    split at hj
    · cases e : l[j]? with
      | none => rw [e] at hj; cases hj
      | some z =>
        rw [e] at hj
        obtain rfl := Option.some.inj hj
        exact h2 _ _ (h3 z (List.mem_of_getElem? e))
    · simp at hj
      exact h3 y (List.mem_of_getElem? hj)
theorem mem_modify {α : Type} {f : α → α} {l : List α} {i : Nat} {y : α} (h : y ∈ l.modify i f) : y ∈ l ∨ ∃ x ∈ l, y = f x := by
  rw [List.mem_iff_getElem?] at h
  obtain ⟨j, hj⟩ := h
  rw [List.getElem?_modify] at hj
  cases e : l[j]? with
  | none => rw [e] at hj; simp at hj
  | some z =>
    rw [e] at hj
    have hz := List.mem_of_getElem? e
    split at hj
    · exact .inr ⟨z, hz, (Option.some.inj hj).symm⟩
    · exact .inl ((Option.some.inj hj) ▸ hz)
theorem CfOk.apply {c : Cf} {a : De} (h : CfOk c) (h0 : applyE c a = 0) : CfOk (applyC c a) := by
  have hm := cfMay_iff.2 h
  rw [applyE, if_neg (by rw [hm]; decide)] at h0
  unfold applyC
  by_cases k1 : a.kind = 1
  · rw [if_pos k1] at h0 ⊢
    obtain ⟨f1, f2, f3, f4⟩ := swFault0.1 h0
    refine ⟨?_, ?_, ?_, ?_, ?_, h.pl, ?_, h.al⟩ <;> dsimp only
    · intro x hx
      rcases List.mem_append.1 hx with hx | hx
      · exact h.sr x hx
      · obtain rfl := List.mem_singleton.1 hx; exact f1
    · refine List.pairwise_append.2 ⟨h.sd, List.pairwise_singleton _ _, fun x hx y hy => ?_⟩
      obtain rfl := List.mem_singleton.1 hy
      exact f2 x hx
    · simp; omega
    · intro p hp
      obtain ⟨g1, g2, g3⟩ := h.pg p hp
      refine ⟨g1, hasSw_app g2, fun s hs => ?_⟩
      rw [tenantAt_app g2]
      rcases List.mem_append.1 hs with hs | hs
      · exact g3 s hs
      · obtain rfl := List.mem_singleton.1 hs
        rintro ⟨e1, e2⟩
        have := g1.2.2.1
        exact f3 (by omega) p hp ⟨e2.symm, e1.symm⟩
    · refine h.pd.imp_of_mem fun {x y} hx hy hxy => ?_
      unfold PoD
      rw [tenantAt_app (h.pg x hx).2.1, tenantAt_app (h.pg y hy).2.1]
      exact hxy
    · exact fun x hx => ⟨(h.ar x hx).1, hasSw_app (h.ar x hx).2⟩
  rw [if_neg k1] at h0 ⊢
  by_cases k2 : a.kind = 2
  · rw [if_pos k2] at h0 ⊢
    obtain ⟨f1, f2, f3⟩ := poFault0.1 h0
    refine ⟨h.sr, h.sd, h.sl, ?_, ?_, ?_, h.ar, h.al⟩ <;> dsimp only
    · intro x hx
      rcases List.mem_append.1 hx with hx | hx
      · exact h.pg x hx
      · obtain rfl := List.mem_singleton.1 hx; exact f1
    · refine List.pairwise_append.2 ⟨h.pd, List.pairwise_singleton _ _, fun x hx y hy => ?_⟩
      obtain rfl := List.mem_singleton.1 hy
      exact f2 x hx
    · simp; omega
  rw [if_neg k2] at h0 ⊢
  by_cases k3 : a.kind = 3
  · rw [if_pos k3] at h0 ⊢
    obtain ⟨f1, f2⟩ := acFault0.1 h0
    refine ⟨h.sr, h.sd, h.sl, h.pg, h.pd, h.pl, ?_, ?_⟩ <;> dsimp only
    · intro x hx
      rcases List.mem_append.1 hx with hx | hx
      · exact h.ar x hx
      · obtain rfl := List.mem_singleton.1 hx; exact f1
    · simp; omega
  rw [if_neg k3] at h0 ⊢
  by_cases k4 : a.kind = 4
  · rw [if_pos k4]
    have hsub := List.eraseIdx_sublist c.ps (idxB (fun p => p.id == a.n) c.ps).toNat
    exact ⟨h.sr, h.sd, h.sl, fun x hx => h.pg x (hsub.mem hx), h.pd.sublist hsub, Nat.le_trans hsub.length_le h.pl, h.ar, h.al⟩
  rw [if_neg k4]
  by_cases k6 : a.kind = 6
  · rw [if_pos k6]
    rw [if_pos (.inr k6)] at h0
    split at h0
    · omega
    split at h0
    · omega
    rename_i h2
    have hr : inR a.m (-1) 5 = true := by
      cases e : inR a.m (-1) 5 with
      | true => rfl
      | false => exact absurd ⟨k6, e⟩ h2
    have hr := inR_iff.1 hr
    refine ⟨h.sr, h.sd, h.sl, fun x hx => ?_, pw_modify (R := PoD c.ss) (f := fun p : Po => { p with ch := a.m }) (fun _ _ h => h) (fun _ _ h => h) _ _ h.pd, by simpa using h.pl, h.ar, h.al⟩
    rcases mem_modify hx with hx | ⟨y, hy, rfl⟩
    · exact h.pg x hx
    · exact (h.pg y hy).ch hr
  rw [if_neg k6]
  have hsub := List.eraseIdx_sublist c.acs a.n.toNat
  exact ⟨h.sr, h.sd, h.sl, h.pg, h.pd, h.pl, fun x hx => h.ar x (hsub.mem hx), Nat.le_trans hsub.length_le h.al⟩
theorem CfOk.nil : CfOk cf0 := ⟨by simp [cf0], .nil, by simp [cf0], by simp [cf0], .nil, by simp [cf0], by simp [cf0], by simp [cf0]⟩
/-- What is wanted behind an act, if it is not refused. -/
def stepC (c : Cf) (a : De) : Cf := if applyE c a = 0 then applyR c a else c
theorem CfOk.step {c : Cf} (h : CfOk c) (a : De) : CfOk (stepC c a) := by
  unfold stepC
  split
  · rename_i h0
    rw [applyR_ok h0]
    exact h.apply h0
  · exact h
end Go.Proofs.Ytdbbmjdeeenlhaa

/- Flows, frames and packets that came in, as data by value. -/
namespace Go.Proofs.Ytdbbmjdeeenlhaa
open Go.ChangeShapes Go.WideShapes Go.ChangeAt Go.RowKit Go.Deep
set_option maxRecDepth 100000

def Mx.Ok (m : Mx) : Prop := I64 m.field ∧ I64 m.mask ∧ I64 m.value
def Dx.Ok (d : Dx) : Prop := I64 d.kind ∧ I64 d.a ∧ I64 d.n
def Fl.Ok (f : Fl) : Prop := I64 f.table ∧ I64 f.prio ∧ (∀ x ∈ f.ms, x.Ok) ∧ (∀ x ∈ f.ds, x.Ok) ∧ f.ms.length * 24 ≤ reachBytes ∧ f.ds.length * 24 ≤ reachBytes
def leaves3 : List Leaf := [.int, .int, .int]
def flLeaves : List Leaf := [.int, .int, .slice 31, .slice 34]
theorem mtx_leaves : leaves Try.prog 2 30 = some leaves3 := by kernel_rfl
theorem dsx_leaves : leaves Try.prog 2 33 = some leaves3 := by kernel_rfl
theorem fl_leaves : leaves Try.prog 2 36 = some flLeaves := by kernel_rfl
theorem mtx_cellsOf : Try.prog.cellsOf 30 = 3 := by kernel_rfl
theorem dsx_cellsOf : Try.prog.cellsOf 33 = 3 := by kernel_rfl
theorem fl_cellsOf : Try.prog.cellsOf 36 = 4 := by kernel_rfl
theorem mtx_bytes : Try.prog.bytesOf 30 = 24 := by kernel_rfl
theorem dsx_bytes : Try.prog.bytesOf 33 = 24 := by kernel_rfl
theorem fl_bytes : Try.prog.bytesOf 36 = 64 := by kernel_rfl

section
variable {H : Type} {enc : TypeId × Value → H} {P : Program} {w : World} {base : Nat} {spare : Nat → Bool} {held : Bool} {Cl : TypeId → DataW H → Prop}
theorem mtx_rep {cs : List Value} (h : AllOk enc P w base spare held Cl leaves3 cs) : ∃ m : Mx, m.Ok ∧ RepF w (encMx m) cs := by
  match cs, h.length with
  | [c0, c1, c2], _ =>
    obtain ⟨⟨a0, rfl, b0⟩, ⟨a1, rfl, b1⟩, ⟨a2, rfl, b2⟩, _⟩ := h
    exact ⟨⟨a0, a1, a2⟩, ⟨b0, b1, b2⟩, fun _ => ⟨rfl, rfl, rfl, trivial⟩⟩
theorem dsx_rep {cs : List Value} (h : AllOk enc P w base spare held Cl leaves3 cs) : ∃ m : Dx, m.Ok ∧ RepF w (encDx m) cs := by
  match cs, h.length with
  | [c0, c1, c2], _ =>
    obtain ⟨⟨a0, rfl, b0⟩, ⟨a1, rfl, b1⟩, ⟨a2, rfl, b2⟩, _⟩ := h
    exact ⟨⟨a0, a1, a2⟩, ⟨b0, b1, b2⟩, fun _ => ⟨rfl, rfl, rfl, trivial⟩⟩
theorem fl_rep {cs : List Value} (h : AllOk enc Try.prog w base spare held (SizedCl Try.prog) flLeaves cs) : ∃ f : Fl, f.Ok ∧ RepF w (encFl f) cs := by
  match cs, h.length with
  | [c0, c1, c2, c3], _ =>
    obtain ⟨⟨a0, rfl, b0⟩, ⟨a1, rfl, b1⟩, l2, l3, _⟩ := h
    obtain ⟨ms, o2, n2, r2⟩ := open_sl Try.underlying31 mtx_leaves mtx_cellsOf rfl (by omega) mtx_bytes (fun _ h => mtx_rep h) l2
    obtain ⟨ds, o3, n3, r3⟩ := open_sl Try.underlying34 dsx_leaves dsx_cellsOf rfl (by omega) dsx_bytes (fun _ h => dsx_rep h) l3
    exact ⟨⟨a0, a1, ms, ds⟩, ⟨b0, b1, o2, o3, n2, n3⟩, repF_cons rfl (repF_cons rfl (repF_cons r2 (repF_cons r3 repF_nil)))⟩
theorem open_flows {v : Value} {d : DataW H} {p : List MemPlace} {r : Reach} {b0 : Nat} (hv : Value.okWide Try.prog w r b0 37 v) (h : DataW.Trod enc Try.prog w base spare held 37 v d p) (hs : SizedCl Try.prog 37 d) :
    ∃ l : List Fl, (∀ x ∈ l, x.Ok) ∧ l.length * 64 ≤ reachBytes ∧ (slOf encFl l).Rep (fun b => b < w.heap.size) w v :=
  open_sl_arg Try.underlying37 fl_leaves fl_cellsOf rfl (by omega) fl_bytes (fun _ h => fl_rep h) hv h hs
theorem fr_repF {f : Fr} (h : f.Ok) : RepF w (encFr f) f.cells := fun _ => ⟨rfl, rfl, rfl, rfl, rfl, rfl, rfl, ⟨rfl, h.2.2.2.2.2.2.2⟩, trivial⟩
theorem pk_repF {f : Pk} (h : f.Ok) : RepF w (encPk f) f.cells := fun _ => ⟨rfl, rfl, rfl, rfl, rfl, rfl, rfl, rfl, rfl, rfl, ⟨rfl, h.2.2.2.2.2.2.2.2.2.2⟩, trivial⟩
end
end Go.Proofs.Ytdbbmjdeeenlhaa
