import Derived.Test.YtmidechdlbcepaaGreatPack23
import Derived.Test.YtmidechdlbcepaaGreatPack14
import Derived.Test.YtmidechdlbcepaaGreatPack22
set_option linter.unusedSimpArgs false
set_option linter.unusedVariables false
namespace Go.Proofs.YtmidechdlbcepaaGreat
open Go.RowKit
def encSw (x : Sw) : List FV := [.int .i64 x.id, .int .i64 x.tenant, .int .i64 x.gate]
def encPo (x : Po) : List FV := [.int .i64 x.id, .int .i64 x.sw, .int .i64 x.mac, .int .i64 x.ip, .int .i64 x.ch]
def encAc (x : Ac) : List FV := [.int .i64 x.sw, .int .i64 x.prio, .bool x.inn, .int .i64 x.src, .int .i64 x.srcBits, .int .i64 x.dst, .int .i64 x.dstBits, .int .i64 x.port, .bool x.deny]
def encCf (c : Cf) : List FV := [slOf encSw c.ss, slOf encPo c.ps, slOf encAc c.acs]
theorem encSw_len (x : Sw) : (encSw x).length = 3 := rfl
theorem encPo_len (x : Po) : (encPo x).length = 5 := rfl
theorem encAc_len (x : Ac) : (encAc x).length = 9 := rfl

def idxB {α : Type} (p : α → Bool) : List α → Int
  | [] => -1
  | x :: l => if p x = true then 0 else if idxB p l < 0 then -1 else idxB p l + 1
theorem idxB_ge {α : Type} (p : α → Bool) : ∀ l : List α, -1 ≤ idxB p l ∧ idxB p l < l.length
  | [] => by simp [idxB]
  | x :: l => by
    have := idxB_ge p l
    simp only [idxB, List.length_cons]
    split
    · omega
    · split <;> omega
theorem idxB_any {α : Type} (p : α → Bool) : ∀ l : List α, (idxB p l < 0 ↔ l.any p = false)
  | [] => by simp [idxB]
  | x :: l => by
    have := idxB_any p l
    have h2 := idxB_ge p l
    simp only [idxB, List.any_cons]
    split
    · rename_i h
      simp [h]
    · rename_i h
      have h3 : p x = false := by simpa using h
      rw [h3, Bool.false_or, ← this]
      split <;> omega
theorem idxB_at {α : Type} (p : α → Bool) : ∀ (l : List α) (k : Nat), idxB p l = (k : Int) → ∃ x, l[k]? = some x ∧ p x = true ∧ l.find? p = some x
  | [], k, h => by simp [idxB] at h
  | x :: l, k, h => by
    have h2 := idxB_ge p l
    simp only [idxB] at h
    split at h
    · rename_i hx
      obtain rfl : k = 0 := by omega
      exact ⟨x, rfl, hx, by simp [hx]⟩
    · rename_i hx
      split at h
      · omega
      · obtain ⟨y, h3, h4, h5⟩ := idxB_at p l (k - 1) (by omega)
        obtain ⟨j, rfl⟩ : ∃ j, k = j + 1 := ⟨k - 1, by omega⟩
        exact ⟨y, by simpa using h3, h4, by simp [hx, h5]⟩
theorem idxB_take {α : Type} (p : α → Bool) : ∀ (l : List α) (k : Nat), (∀ x ∈ l.take k, p x = false) → (∀ x, l[k]? = some x → p x = true) → k < l.length → idxB p l = k
  | [], k, _, _, h => by simp at h
  | x :: l, 0, _, h2, _ => by simp [idxB, h2 x rfl]
  | x :: l, k + 1, h1, h2, h3 => by
    have h4 := idxB_take p l k (fun y hy => h1 y (by simp [hy])) (fun y hy => h2 y (by simpa using hy)) (by simpa using h3)
    have h5 := h1 x (by simp)
    simp only [idxB, h5]
    rw [h4]
    simp
    omega
theorem idxB_none {α : Type} (p : α → Bool) (l : List α) (h : ∀ x ∈ l, p x = false) : idxB p l = -1 := by
  have h1 := idxB_ge p l
  have := (idxB_any p l).2 (by simpa using h)
  omega

def tenantAt (ss : List Sw) (id : Int) : Int := match ss.find? (fun s => s.id == id) with
  | some s => s.tenant
  | none => 0
def takenB (c : Cf) (tenant ip : Int) : Bool := c.ss.any (fun s => s.tenant == tenant && s.gate == ip) || c.ps.any (fun p => p.ip == ip && tenantAt c.ss p.sw == tenant)
def swFault (c : Cf) (s : Sw) : Int :=
  if inR s.id 1 500 = false ∨ inR s.tenant 1 9 = false ∨ inR s.gate 0 65535 = false then 2
  else if c.ss.any (fun x => x.id == s.id) = true ∨ (0 < s.gate ∧ takenB c s.tenant s.gate = true) then 7
  else if 12 ≤ c.ss.length then 1
  else 0
def poFault (c : Cf) (p : Po) : Int :=
  if inR p.id 1 999 = false ∨ inR p.mac 1 59999 = false ∨ inR p.ip 1 65535 = false ∨ inR p.ch (-1) 5 = false then 2
  else if c.ss.any (fun x => x.id == p.sw) = false then 6
  else if c.ps.any (fun q => q.id == p.id || (q.sw == p.sw && q.mac == p.mac)) = true then 7
  else if takenB c (tenantAt c.ss p.sw) p.ip = true then 7
  else if 40 ≤ c.ps.length then 1
  else 0
def unitOf (bits : Int) : Int := 2 ^ (16 - bits.toNat)
def acFault (c : Cf) (a : Ac) : Int :=
  if inR a.prio 0 1000 = false ∨ inR a.src 0 65535 = false ∨ inR a.dst 0 65535 = false ∨ inR a.srcBits 0 16 = false ∨ inR a.dstBits 0 16 = false ∨ inR a.port (-1) 65535 = false then 2
  else if a.src % unitOf a.srcBits ≠ 0 ∨ a.dst % unitOf a.dstBits ≠ 0 then 4
  else if c.ss.any (fun x => x.id == a.sw) = false then 6
  else if 40 ≤ c.acs.length then 1
  else 0
def swsMay (c : Cf) : List Sw → Bool
  | [] => true
  | s :: l => decide (swFault c s = 0) && swsMay { c with ss := c.ss ++ [s] } l
def posMay (c : Cf) : List Po → Bool
  | [] => true
  | s :: l => decide (poFault c s = 0) && posMay { c with ps := c.ps ++ [s] } l
def acsMay (c : Cf) : List Ac → Bool
  | [] => true
  | s :: l => decide (acFault c s = 0) && acsMay { c with acs := c.acs ++ [s] } l
def cfMay (c : Cf) : Bool := swsMay ⟨[], [], []⟩ c.ss && posMay ⟨c.ss, [], []⟩ c.ps && acsMay ⟨c.ss, c.ps, []⟩ c.acs
def Cf.Wf (c : Cf) : Prop := ∀ p ∈ c.ps, c.ss.any (fun x => x.id == p.sw) = true
structure De where
  kind : Int
  sw : Sw
  po : Po
  ac : Ac
  n : Int
  m : Int
  fr : Fr
def encDe (a : De) : List FV := [.int .i64 a.kind] ++ encSw a.sw ++ encPo a.po ++ encAc a.ac ++ [.int .i64 a.n, .int .i64 a.m] ++ encFr a.fr
theorem encDe_len (x : De) : (encDe x).length = 28 := rfl
def sw0 : Sw := ⟨0, 0, 0⟩
def po0 : Po := ⟨0, 0, 0, 0, 0⟩
def ac0 : Ac := ⟨0, 0, false, 0, 0, 0, 0, 0, false⟩
def frZ : Fr := ⟨0, 0, 0, 0, 0, 0, 0, ⟨#[]⟩⟩
def de0 : De := ⟨0, sw0, po0, ac0, 0, 0, frZ⟩
def cf0 : Cf := ⟨[], [], []⟩
def applyE (c : Cf) (a : De) : Int :=
  if cfMay c = false then 8
  else if a.kind = 1 then swFault c a.sw
  else if a.kind = 2 then poFault c a.po
  else if a.kind = 3 then acFault c a.ac
  else if a.kind = 4 ∨ a.kind = 6 then (if idxB (fun p => p.id == a.n) c.ps < 0 then 6 else if a.kind = 6 ∧ inR a.m (-1) 5 = false then 2 else 0)
  else if a.kind = 5 then (if a.n < 0 ∨ (c.acs.length : Int) ≤ a.n then 6 else 0)
  else 3
def applyC (c : Cf) (a : De) : Cf :=
  if a.kind = 1 then { c with ss := c.ss ++ [a.sw] }
  else if a.kind = 2 then { c with ps := c.ps ++ [a.po] }
  else if a.kind = 3 then { c with acs := c.acs ++ [a.ac] }
  else if a.kind = 4 then { c with ps := c.ps.eraseIdx (idxB (fun p => p.id == a.n) c.ps).toNat }
  else if a.kind = 6 then { c with ps := c.ps.modify (idxB (fun p => p.id == a.n) c.ps).toNat fun p => { p with ch := a.m } }
  else { c with acs := c.acs.eraseIdx a.n.toNat }
def applyR (c : Cf) (a : De) : Cf := if applyE c a ≠ 0 then cf0 else applyC c a

theorem swFault_lt {c : Cf} {s : Sw} (h : swFault c s = 0) : c.ss.length < 12 := by
  unfold swFault at h
  repeat' split at h
  all_goals first | omega | (exfalso; omega)
theorem poFault_lt {c : Cf} {s : Po} (h : poFault c s = 0) : c.ps.length < 40 ∧ c.ss.any (fun x => x.id == s.sw) = true := by
  unfold poFault at h
  repeat' split at h
  any_goals (exfalso; omega)
  rename_i h1 h2 h3
  exact ⟨by omega, by simpa using ‹¬ (c.ss.any (fun x => x.id == s.sw) = false)›⟩
theorem acFault_lt {c : Cf} {s : Ac} (h : acFault c s = 0) : c.acs.length < 40 := by
  unfold acFault at h
  repeat' split at h
  all_goals first | omega | (exfalso; omega)
theorem swsMay_len : ∀ {l : List Sw} {c : Cf}, swsMay c l = true → l = [] ∨ c.ss.length + l.length ≤ 12
  | [], _, _ => .inl rfl
  | s :: l, c, h => by
    simp only [swsMay, Bool.and_eq_true, decide_eq_true_eq] at h
    have h1 := swFault_lt h.1
    rcases swsMay_len h.2 with rfl | h2
    · right; simp; omega
    · right; simp at h2 ⊢; omega
theorem posMay_len : ∀ {l : List Po} {c : Cf}, posMay c l = true → (l = [] ∨ c.ps.length + l.length ≤ 40) ∧ ∀ p ∈ l, c.ss.any (fun x => x.id == p.sw) = true
  | [], _, _ => ⟨.inl rfl, by simp⟩
  | s :: l, c, h => by
    simp only [posMay, Bool.and_eq_true, decide_eq_true_eq] at h
    have h1 := poFault_lt h.1
    obtain ⟨h2, h3⟩ := posMay_len h.2
    refine ⟨.inr ?_, fun p hp => ?_⟩
    · rcases h2 with rfl | h2
      · simp; omega
      · simp at h2 ⊢; omega
    · rcases List.mem_cons.1 hp with rfl | hp
      · exact h1.2
      · exact h3 p hp
theorem acsMay_len : ∀ {l : List Ac} {c : Cf}, acsMay c l = true → l = [] ∨ c.acs.length + l.length ≤ 40
  | [], _, _ => .inl rfl
  | s :: l, c, h => by
    simp only [acsMay, Bool.and_eq_true, decide_eq_true_eq] at h
    have h1 := acFault_lt h.1
    rcases acsMay_len h.2 with rfl | h2
    · right; simp; omega
    · right; simp at h2 ⊢; omega
structure CfLen (c : Cf) : Prop where
  ss : c.ss.length ≤ 12
  ps : c.ps.length ≤ 40
  acs : c.acs.length ≤ 40
  wf : c.Wf
theorem cfMay_len {c : Cf} (h : cfMay c = true) : CfLen c := by
  simp only [cfMay, Bool.and_eq_true] at h
  have h1 := swsMay_len h.1.1
  have h2 := posMay_len h.1.2
  have h3 := acsMay_len h.2
  refine ⟨?_, ?_, ?_, h2.2⟩
  · rcases h1 with h | h
    · rw [h]; simp
    · simpa using h
  · rcases h2.1 with h | h
    · rw [h]; simp
    · simpa using h
  · rcases h3 with h | h
    · rw [h]; simp
    · simpa using h
theorem applyE_bad {c : Cf} {a : De} (h : cfMay c = false) : applyE c a = 8 := if_pos h
theorem applyR_bad {c : Cf} {a : De} (h : applyE c a ≠ 0) : applyR c a = cf0 := if_pos h
theorem applyR_ok {c : Cf} {a : De} (h : applyE c a = 0) : applyR c a = applyC c a := if_neg (by omega)

def SwR (s : Sw) : Prop := (1 ≤ s.id ∧ s.id ≤ 500) ∧ (1 ≤ s.tenant ∧ s.tenant ≤ 9) ∧ (0 ≤ s.gate ∧ s.gate ≤ 65535)
def SwD (x s : Sw) : Prop := x.id ≠ s.id ∧ ¬ (0 < s.gate ∧ x.tenant = s.tenant ∧ x.gate = s.gate)
def PoR (p : Po) : Prop := (1 ≤ p.id ∧ p.id ≤ 999) ∧ (1 ≤ p.mac ∧ p.mac ≤ 59999) ∧ (1 ≤ p.ip ∧ p.ip ≤ 65535) ∧ (-1 ≤ p.ch ∧ p.ch ≤ 5)
def AcR (a : Ac) : Prop := ((0 ≤ a.prio ∧ a.prio ≤ 1000) ∧ (0 ≤ a.src ∧ a.src ≤ 65535) ∧ (0 ≤ a.dst ∧ a.dst ≤ 65535) ∧ (0 ≤ a.srcBits ∧ a.srcBits ≤ 16) ∧ (0 ≤ a.dstBits ∧ a.dstBits ≤ 16) ∧ (-1 ≤ a.port ∧ a.port ≤ 65535)) ∧ a.src % unitOf a.srcBits = 0 ∧ a.dst % unitOf a.dstBits = 0
def hasSw (ss : List Sw) (id : Int) : Prop := ∃ s ∈ ss, s.id = id
theorem hasSw_any {ss : List Sw} {id : Int} : ss.any (fun x => x.id == id) = true ↔ hasSw ss id := by simp [hasSw]
theorem hasSw_not {ss : List Sw} {id : Int} : ss.any (fun x => x.id == id) = false ↔ ¬ hasSw ss id := by rw [← hasSw_any]; simp
theorem swFault0 {c : Cf} {s : Sw} : swFault c s = 0 ↔ SwR s ∧ (∀ x ∈ c.ss, SwD x s) ∧ (0 < s.gate → ∀ p ∈ c.ps, ¬ (p.ip = s.gate ∧ tenantAt c.ss p.sw = s.tenant)) ∧ c.ss.length < 12 := by
  unfold swFault
  by_cases h1 : inR s.id 1 500 = false ∨ inR s.tenant 1 9 = false ∨ inR s.gate 0 65535 = false
  · rw [if_pos h1]
    simp only [inR_not] at h1
    refine ⟨fun h => by omega, fun ⟨h, _⟩ => ?_⟩
    unfold SwR at h
    omega
  · rw [if_neg h1]
    have hr : SwR s := by simp only [inR_not] at h1; unfold SwR; omega
    by_cases h2 : c.ss.any (fun x => x.id == s.id) = true ∨ (0 < s.gate ∧ takenB c s.tenant s.gate = true)
    · rw [if_pos h2]
      refine ⟨fun h => by omega, fun ⟨_, h3, h4, _⟩ => ?_⟩
      exfalso
      rcases h2 with h2 | ⟨h5, h6⟩
      · obtain ⟨x, hx, e⟩ := hasSw_any.1 h2
        exact (h3 x hx).1 e
      · simp only [takenB, Bool.or_eq_true, List.any_eq_true, Bool.and_eq_true, beq_iff_eq] at h6
        rcases h6 with ⟨x, hx, e⟩ | ⟨p, hp, e⟩
        · exact (h3 x hx).2 ⟨h5, e.1, e.2⟩
        · exact h4 h5 p hp e
    · rw [if_neg h2]
      have h3 : ¬ hasSw c.ss s.id := hasSw_not.1 (by simpa using fun h => h2 (.inl h))
      have h4 : 0 < s.gate → takenB c s.tenant s.gate = false := fun h => by simpa using fun h' => h2 (.inr ⟨h, h'⟩)
      have h5 : (∀ x ∈ c.ss, SwD x s) ∧ (0 < s.gate → ∀ p ∈ c.ps, ¬ (p.ip = s.gate ∧ tenantAt c.ss p.sw = s.tenant)) := by
        simp only [takenB, Bool.or_eq_false_iff, List.any_eq_false, Bool.and_eq_true, beq_iff_eq] at h4
        exact ⟨fun x hx => ⟨fun e => h3 ⟨x, hx, e⟩, fun ⟨h, e⟩ => (h4 h).1 x hx e⟩, fun h p hp => (h4 h).2 p hp⟩
      split
      · exact ⟨fun h => by omega, fun ⟨_, _, _, h⟩ => by omega⟩
      · exact ⟨fun _ => ⟨hr, h5.1, h5.2, by omega⟩, fun _ => rfl⟩
def PoD (ss : List Sw) (y x : Po) : Prop := y.id ≠ x.id ∧ ¬ (y.sw = x.sw ∧ y.mac = x.mac) ∧ ¬ (y.ip = x.ip ∧ tenantAt ss y.sw = tenantAt ss x.sw)
def PoG (ss : List Sw) (x : Po) : Prop := PoR x ∧ hasSw ss x.sw ∧ ∀ s ∈ ss, ¬ (s.tenant = tenantAt ss x.sw ∧ s.gate = x.ip)
theorem poFault0 {c : Cf} {p : Po} : poFault c p = 0 ↔ PoG c.ss p ∧ (∀ q ∈ c.ps, PoD c.ss q p) ∧ c.ps.length < 40 := by
  unfold poFault
  by_cases h1 : inR p.id 1 999 = false ∨ inR p.mac 1 59999 = false ∨ inR p.ip 1 65535 = false ∨ inR p.ch (-1) 5 = false
  · rw [if_pos h1]
    simp only [inR_not] at h1
    refine ⟨fun h => by omega, fun ⟨⟨h, _⟩, _⟩ => ?_⟩
    unfold PoR at h
    omega
  rw [if_neg h1]
  have hr : PoR p := by simp only [inR_not] at h1; unfold PoR; omega
  by_cases h2 : c.ss.any (fun x => x.id == p.sw) = false
  · rw [if_pos h2]
    exact ⟨fun h => by omega, fun ⟨⟨_, h, _⟩, _⟩ => absurd h (hasSw_not.1 h2)⟩
  rw [if_neg h2]
  have h2' : hasSw c.ss p.sw := hasSw_any.1 (by simpa using h2)
  by_cases h3 : c.ps.any (fun q => q.id == p.id || (q.sw == p.sw && q.mac == p.mac)) = true
  · rw [if_pos h3]
    refine ⟨fun h => by omega, fun ⟨_, h, _⟩ => ?_⟩
    simp only [List.any_eq_true, Bool.or_eq_true, Bool.and_eq_true, beq_iff_eq] at h3
    obtain ⟨q, hq, e⟩ := h3
    rcases e with e | e
    · exact absurd e (h q hq).1
    · exact absurd e (h q hq).2.1
  rw [if_neg h3]
  have h3' : ∀ q ∈ c.ps, q.id ≠ p.id ∧ ¬ (q.sw = p.sw ∧ q.mac = p.mac) := fun q hq => by
    refine ⟨fun e => h3 (List.any_eq_true.2 ⟨q, hq, by simp [e]⟩), fun e => h3 (List.any_eq_true.2 ⟨q, hq, by simp [e]⟩)⟩
  by_cases h4 : takenB c (tenantAt c.ss p.sw) p.ip = true
  · rw [if_pos h4]
    refine ⟨fun h => by omega, fun ⟨⟨_, _, h⟩, h', _⟩ => ?_⟩
    exfalso
    simp only [takenB, Bool.or_eq_true, List.any_eq_true, Bool.and_eq_true, beq_iff_eq] at h4
    rcases h4 with ⟨x, hx, e⟩ | ⟨q, hq, e⟩
    · exact h x hx e
    · exact (h' q hq).2.2 e
  rw [if_neg h4]
  have h4' : (∀ s ∈ c.ss, ¬ (s.tenant = tenantAt c.ss p.sw ∧ s.gate = p.ip)) ∧ ∀ q ∈ c.ps, ¬ (q.ip = p.ip ∧ tenantAt c.ss q.sw = tenantAt c.ss p.sw) := by
    have : takenB c (tenantAt c.ss p.sw) p.ip = false := by simpa using h4
    simp only [takenB, Bool.or_eq_false_iff, List.any_eq_false, Bool.and_eq_true, beq_iff_eq] at this
    exact this
  split
  · exact ⟨fun h => by omega, fun ⟨_, _, h⟩ => by omega⟩
  · exact ⟨fun _ => ⟨⟨hr, h2', h4'.1⟩, fun q hq => ⟨(h3' q hq).1, (h3' q hq).2, h4'.2 q hq⟩, by omega⟩, fun _ => rfl⟩
theorem acFault0 {c : Cf} {a : Ac} : acFault c a = 0 ↔ (AcR a ∧ hasSw c.ss a.sw) ∧ c.acs.length < 40 := by
  unfold acFault
  by_cases h1 : inR a.prio 0 1000 = false ∨ inR a.src 0 65535 = false ∨ inR a.dst 0 65535 = false ∨ inR a.srcBits 0 16 = false ∨ inR a.dstBits 0 16 = false ∨ inR a.port (-1) 65535 = false
  · rw [if_pos h1]
    simp only [inR_not] at h1
    refine ⟨fun h => by omega, fun ⟨⟨⟨h, _⟩, _⟩, _⟩ => ?_⟩
    omega
  rw [if_neg h1]
  simp only [inR_not] at h1
  by_cases h2 : a.src % unitOf a.srcBits ≠ 0 ∨ a.dst % unitOf a.dstBits ≠ 0
  · rw [if_pos h2]
    refine ⟨fun h => by omega, fun ⟨⟨⟨_, h, h'⟩, _⟩, _⟩ => ?_⟩
    rcases h2 with h2 | h2
    · exact absurd h h2
    · exact absurd h' h2
  rw [if_neg h2]
  have h2' : a.src % unitOf a.srcBits = 0 ∧ a.dst % unitOf a.dstBits = 0 := ⟨Decidable.not_not.1 fun h => h2 (.inl h), Decidable.not_not.1 fun h => h2 (.inr h)⟩
  by_cases h3 : c.ss.any (fun x => x.id == a.sw) = false
  · rw [if_pos h3]
    exact ⟨fun h => by omega, fun ⟨⟨_, h⟩, _⟩ => absurd h (hasSw_not.1 h3)⟩
  rw [if_neg h3]
  have h3' : hasSw c.ss a.sw := hasSw_any.1 (by simpa using h3)
  split
  · exact ⟨fun h => by omega, fun ⟨_, h⟩ => by omega⟩
  · exact ⟨fun _ => ⟨⟨⟨by omega, h2'⟩, h3'⟩, by omega⟩, fun _ => rfl⟩

theorem swsMay_iff : ∀ (l pre : List Sw), swsMay ⟨pre, [], []⟩ l = true ↔ (∀ x ∈ l, SwR x) ∧ (∀ y ∈ pre, ∀ x ∈ l, SwD y x) ∧ l.Pairwise SwD ∧ (l = [] ∨ pre.length + l.length ≤ 12)
  | [], _ => by simp [swsMay]
  | s :: l, pre => by
    have ih := swsMay_iff l (pre ++ [s])
    simp only [swsMay, Bool.and_eq_true, decide_eq_true_eq, swFault0]
    rw [show ({ ss := pre ++ [s], ps := [], acs := [] } : Cf) = ⟨pre ++ [s], [], []⟩ from rfl, ih]
    simp only [List.mem_cons, List.pairwise_cons, List.mem_append, List.length_append, List.length_cons, List.length_nil]
    constructor
    · rintro ⟨⟨h1, h2, _, h3⟩, h4, h5, h6, h7⟩
      refine ⟨?_, ?_, ⟨fun x hx => h5 s (.inr (.inl rfl)) x hx, h6⟩, .inr ?_⟩
      · rintro x (rfl | hx)
        · exact h1
        · exact h4 x hx
      · rintro y hy x (rfl | hx)
        · exact h2 y hy
        · exact h5 y (.inl hy) x hx
      · rcases h7 with rfl | h7
        · simp; omega
        · omega
    · rintro ⟨h1, h2, ⟨h3, h4⟩, h5⟩
      have h5 : pre.length + (l.length + 1) ≤ 12 := by
        rcases h5 with h5 | h5
        · cases h5
        · exact h5
      refine ⟨⟨h1 s (.inl rfl), fun x hx => h2 x hx s (.inl rfl), (fun _ p hp => by cases hp), by omega⟩, fun x hx => h1 x (.inr hx), ?_, h4, ?_⟩
      · rintro y (hy | hy | hy) x hx
        · exact h2 y hy x (.inr hx)
        · subst hy; exact h3 x hx
        · cases hy
      · cases l with
        | nil => exact .inl rfl
        | cons => right; omega
theorem posMay_iff (ss : List Sw) : ∀ (l pre : List Po), posMay ⟨ss, pre, []⟩ l = true ↔ (∀ x ∈ l, PoG ss x) ∧ (∀ y ∈ pre, ∀ x ∈ l, PoD ss y x) ∧ l.Pairwise (PoD ss) ∧ (l = [] ∨ pre.length + l.length ≤ 40)
  | [], _ => by simp [posMay]
  | s :: l, pre => by
    have ih := posMay_iff ss l (pre ++ [s])
    simp only [posMay, Bool.and_eq_true, decide_eq_true_eq, poFault0]
    rw [show ({ ss := ss, ps := pre ++ [s], acs := [] } : Cf) = ⟨ss, pre ++ [s], []⟩ from rfl, ih]
    simp only [List.mem_cons, List.pairwise_cons, List.mem_append, List.length_append, List.length_cons, List.length_nil]
    constructor
    · rintro ⟨⟨h1, h2, h3⟩, h4, h5, h6, h7⟩
      refine ⟨?_, ?_, ⟨fun x hx => h5 s (.inr (.inl rfl)) x hx, h6⟩, .inr ?_⟩
      · rintro x (rfl | hx)
        · exact h1
        · exact h4 x hx
      · rintro y hy x (rfl | hx)
        · exact h2 y hy
        · exact h5 y (.inl hy) x hx
      · rcases h7 with rfl | h7
        · simp; omega
        · omega
    · rintro ⟨h1, h2, ⟨h3, h4⟩, h5⟩
      have h5 : pre.length + (l.length + 1) ≤ 40 := by
        rcases h5 with h5 | h5
        · cases h5
        · exact h5
      refine ⟨⟨h1 s (.inl rfl), fun x hx => h2 x hx s (.inl rfl), by omega⟩, fun x hx => h1 x (.inr hx), ?_, h4, ?_⟩
      · rintro y (hy | hy | hy) x hx
        · exact h2 y hy x (.inr hx)
        · subst hy; exact h3 x hx
        · cases hy
      · cases l with
        | nil => exact .inl rfl
        | cons => right; omega
theorem acsMay_iff (ss : List Sw) (ps : List Po) : ∀ (l pre : List Ac), acsMay ⟨ss, ps, pre⟩ l = true ↔ (∀ x ∈ l, AcR x ∧ hasSw ss x.sw) ∧ (l = [] ∨ pre.length + l.length ≤ 40)
  | [], _ => by simp [acsMay]
  | s :: l, pre => by
    have ih := acsMay_iff ss ps l (pre ++ [s])
    simp only [acsMay, Bool.and_eq_true, decide_eq_true_eq, acFault0]
    rw [show ({ ss := ss, ps := ps, acs := pre ++ [s] } : Cf) = ⟨ss, ps, pre ++ [s]⟩ from rfl, ih]
    simp only [List.mem_cons, List.length_append, List.length_cons, List.length_nil]
    constructor
    · rintro ⟨⟨h1, h3⟩, h4, h7⟩
      refine ⟨?_, .inr ?_⟩
      · rintro x (rfl | hx)
        · exact h1
        · exact h4 x hx
      · rcases h7 with rfl | h7
        · simp; omega
        · omega
    · rintro ⟨h1, h5⟩
      have h5 : pre.length + (l.length + 1) ≤ 40 := by
        rcases h5 with h5 | h5
        · cases h5
        · exact h5
      refine ⟨⟨h1 s (.inl rfl), by omega⟩, fun x hx => h1 x (.inr hx), ?_⟩
      cases l with
      | nil => exact .inl rfl
      | cons => right; omega
structure CfOk (c : Cf) : Prop where
  sr : ∀ x ∈ c.ss, SwR x
  sd : c.ss.Pairwise SwD
  sl : c.ss.length ≤ 12
  pg : ∀ x ∈ c.ps, PoG c.ss x
  pd : c.ps.Pairwise (PoD c.ss)
  pl : c.ps.length ≤ 40
  ar : ∀ x ∈ c.acs, AcR x ∧ hasSw c.ss x.sw
  al : c.acs.length ≤ 40
theorem le_or_nil {α : Type} {l : List α} {n : Nat} : (l = [] ∨ ([] : List α).length + l.length ≤ n) ↔ l.length ≤ n := by
  constructor
  · rintro (rfl | h)
    · simp
    · simpa using h
  · intro h
    right
    simpa using h
theorem cfMay_iff {c : Cf} : cfMay c = true ↔ CfOk c := by
  unfold cfMay
  rw [Bool.and_eq_true, Bool.and_eq_true, swsMay_iff, posMay_iff, acsMay_iff]
  have e1 : (c.ss = [] ∨ ([] : List Sw).length + c.ss.length ≤ 12) ↔ c.ss.length ≤ 12 := le_or_nil
  have e2 : (c.ps = [] ∨ ([] : List Po).length + c.ps.length ≤ 40) ↔ c.ps.length ≤ 40 := le_or_nil
  have e3 : (c.acs = [] ∨ ([] : List Ac).length + c.acs.length ≤ 40) ↔ c.acs.length ≤ 40 := le_or_nil
  rw [e1, e2, e3]
  constructor
  · rintro ⟨⟨⟨h1, _, h2, h3⟩, h4, _, h5, h6⟩, h7, h8⟩
    exact ⟨h1, h2, h3, h4, h5, h6, h7, h8⟩
  · rintro ⟨h1, h2, h3, h4, h5, h6, h7, h8⟩
    exact ⟨⟨⟨h1, by simp, h2, h3⟩, h4, by simp, h5, h6⟩, h7, h8⟩
theorem hasSw_app {ss : List Sw} {s : Sw} {id : Int} (h : hasSw ss id) : hasSw (ss ++ [s]) id := by
  obtain ⟨x, hx, e⟩ := h
  exact ⟨x, by simp [hx], e⟩
theorem tenantAt_app {ss : List Sw} {s : Sw} {id : Int} (h : hasSw ss id) : tenantAt (ss ++ [s]) id = tenantAt ss id := by
  unfold tenantAt
  rw [List.find?_append]
  cases e : ss.find? (fun s => s.id == id) with
  | some x => rfl
  | none =>
    obtain ⟨x, hx, e2⟩ := h
    have := List.find?_eq_none.1 e x hx
    simp [e2] at this
theorem PoG.ch {ss : List Sw} {p : Po} {m : Int} (h : PoG ss p) (hm : -1 ≤ m ∧ m ≤ 5) : PoG ss { p with ch := m } := ⟨⟨h.1.1, h.1.2.1, h.1.2.2.1, hm⟩, h.2.1, h.2.2⟩
theorem pw_modify {α : Type} {R : α → α → Prop} {f : α → α} (h1 : ∀ a b, R a b → R (f a) b) (h2 : ∀ a b, R a b → R a (f b)) : ∀ (l : List α) (i : Nat), l.Pairwise R → (l.modify i f).Pairwise R
  | [], i, h => by simp
  | x :: l, 0, h => by
    obtain ⟨h3, h4⟩ := List.pairwise_cons.1 h
    rw [List.modify_zero_cons]
    exact List.pairwise_cons.2 ⟨fun y hy => h1 _ _ (h3 y hy), h4⟩
  | x :: l, i + 1, h => by
    obtain ⟨h3, h4⟩ := List.pairwise_cons.1 h
    rw [List.modify_succ_cons]
    refine List.pairwise_cons.2 ⟨fun y hy => ?_, pw_modify h1 h2 l i h4⟩
    rw [List.mem_iff_getElem?] at hy
    obtain ⟨j, hj⟩ := hy
    rw [List.getElem?_modify] at hj
    split at hj
    · cases e : l[j]? with
      | none => rw [e] at hj; cases hj
      | some z =>
        rw [e] at hj
        obtain rfl := Option.some.inj hj
        exact h2 _ _ (h3 z (List.mem_of_getElem? e))
    · simp at hj
      exact h3 y (List.mem_of_getElem? hj)
theorem mem_modify {α : Type} {f : α → α} {l : List α} {i : Nat} {y : α} (h : y ∈ l.modify i f) : y ∈ l ∨ ∃ x ∈ l, y = f x := by
  rw [List.mem_iff_getElem?] at h
  obtain ⟨j, hj⟩ := h
  rw [List.getElem?_modify] at hj
  cases e : l[j]? with
  | none => rw [e] at hj; simp at hj
  | some z =>
    rw [e] at hj
    have hz := List.mem_of_getElem? e
    split at hj
    · exact .inr ⟨z, hz, (Option.some.inj hj).symm⟩
    · exact .inl ((Option.some.inj hj) ▸ hz)
theorem CfOk.apply {c : Cf} {a : De} (h : CfOk c) (h0 : applyE c a = 0) : CfOk (applyC c a) := by
  have hm := cfMay_iff.2 h
  rw [applyE, if_neg (by rw [hm]; decide)] at h0
  unfold applyC
  by_cases k1 : a.kind = 1
  · rw [if_pos k1] at h0 ⊢
    obtain ⟨f1, f2, f3, f4⟩ := swFault0.1 h0
    refine ⟨?_, ?_, ?_, ?_, ?_, h.pl, ?_, h.al⟩ <;> dsimp only
    · intro x hx
      rcases List.mem_append.1 hx with hx | hx
      · exact h.sr x hx
      · obtain rfl := List.mem_singleton.1 hx; exact f1
    · refine List.pairwise_append.2 ⟨h.sd, List.pairwise_singleton _ _, fun x hx y hy => ?_⟩
      obtain rfl := List.mem_singleton.1 hy
      exact f2 x hx
    · simp; omega
    · intro p hp
      obtain ⟨g1, g2, g3⟩ := h.pg p hp
      refine ⟨g1, hasSw_app g2, fun s hs => ?_⟩
      rw [tenantAt_app g2]
      rcases List.mem_append.1 hs with hs | hs
      · exact g3 s hs
      · obtain rfl := List.mem_singleton.1 hs
        rintro ⟨e1, e2⟩
        have := g1.2.2.1
        exact f3 (by omega) p hp ⟨e2.symm, e1.symm⟩
    · refine h.pd.imp_of_mem fun {x y} hx hy hxy => ?_
      unfold PoD
      rw [tenantAt_app (h.pg x hx).2.1, tenantAt_app (h.pg y hy).2.1]
      exact hxy
    · exact fun x hx => ⟨(h.ar x hx).1, hasSw_app (h.ar x hx).2⟩
  rw [if_neg k1] at h0 ⊢
  by_cases k2 : a.kind = 2
  · rw [if_pos k2] at h0 ⊢
    obtain ⟨f1, f2, f3⟩ := poFault0.1 h0
    refine ⟨h.sr, h.sd, h.sl, ?_, ?_, ?_, h.ar, h.al⟩ <;> dsimp only
    · intro x hx
      rcases List.mem_append.1 hx with hx | hx
      · exact h.pg x hx
      · obtain rfl := List.mem_singleton.1 hx; exact f1
    · refine List.pairwise_append.2 ⟨h.pd, List.pairwise_singleton _ _, fun x hx y hy => ?_⟩
      obtain rfl := List.mem_singleton.1 hy
      exact f2 x hx
    · simp; omega
  rw [if_neg k2] at h0 ⊢
  by_cases k3 : a.kind = 3
  · rw [if_pos k3] at h0 ⊢
    obtain ⟨f1, f2⟩ := acFault0.1 h0
    refine ⟨h.sr, h.sd, h.sl, h.pg, h.pd, h.pl, ?_, ?_⟩ <;> dsimp only
    · intro x hx
      rcases List.mem_append.1 hx with hx | hx
      · exact h.ar x hx
      · obtain rfl := List.mem_singleton.1 hx; exact f1
    · simp; omega
  rw [if_neg k3] at h0 ⊢
  by_cases k4 : a.kind = 4
  · rw [if_pos k4]
    have hsub := List.eraseIdx_sublist c.ps (idxB (fun p => p.id == a.n) c.ps).toNat
    exact ⟨h.sr, h.sd, h.sl, fun x hx => h.pg x (hsub.mem hx), h.pd.sublist hsub, Nat.le_trans hsub.length_le h.pl, h.ar, h.al⟩
  rw [if_neg k4]
  by_cases k6 : a.kind = 6
  · rw [if_pos k6]
    rw [if_pos (.inr k6)] at h0
    split at h0
    · omega
    split at h0
    · omega
    rename_i h2
    have hr : inR a.m (-1) 5 = true := by
      cases e : inR a.m (-1) 5 with
      | true => rfl
      | false => exact absurd ⟨k6, e⟩ h2
    have hr := inR_iff.1 hr
    refine ⟨h.sr, h.sd, h.sl, fun x hx => ?_, pw_modify (R := PoD c.ss) (f := fun p : Po => { p with ch := a.m }) (fun _ _ h => h) (fun _ _ h => h) _ _ h.pd, by simpa using h.pl, h.ar, h.al⟩
    rcases mem_modify hx with hx | ⟨y, hy, rfl⟩
    · exact h.pg x hx
    · exact (h.pg y hy).ch hr
  rw [if_neg k6]
  have hsub := List.eraseIdx_sublist c.acs a.n.toNat
  exact ⟨h.sr, h.sd, h.sl, h.pg, h.pd, h.pl, fun x hx => h.ar x (hsub.mem hx), Nat.le_trans hsub.length_le h.al⟩
theorem CfOk.nil : CfOk cf0 := ⟨by simp [cf0], .nil, by simp [cf0], by simp [cf0], .nil, by simp [cf0], by simp [cf0], by simp [cf0]⟩
def stepC (c : Cf) (a : De) : Cf := if applyE c a = 0 then applyR c a else c
theorem CfOk.step {c : Cf} (h : CfOk c) (a : De) : CfOk (stepC c a) := by
  unfold stepC
  split
  · rename_i h0
    rw [applyR_ok h0]
    exact h.apply h0
  · exact h
end Go.Proofs.YtmidechdlbcepaaGreat
namespace Go.Proofs.YtmidechdlbcepaaGreat
open Go.RowKit
set_option maxRecDepth 100000
theorem flat_le {α β : Type} {f : α → List β} {n : Nat} (h : ∀ x, (f x).length ≤ n) : ∀ l : List α, (l.flatMap f).length ≤ n * l.length
  | [] => by simp
  | x :: l => by
    have h1 := h x
    have h2 := flat_le h l
    rw [List.flatMap_cons, List.length_append, List.length_cons, Nat.mul_add]
    omega
def enterM (p : Po) : List Mx := [⟨0, 65535, p.id⟩, ⟨2, 65535, p.mac⟩, ⟨4, 65535, p.ip⟩]
def enterA (p : Po) : Fl := ⟨0, 1, enterM p ++ [⟨3, 65535, 3⟩], [⟨1, 8, p.sw⟩, ⟨4, 0, 1⟩]⟩
def enterB_ (p : Po) : Fl := ⟨0, 1, enterM p ++ [⟨3, 65535, 1⟩], [⟨1, 8, p.sw⟩, ⟨4, 0, 2⟩]⟩
def enter0 : Fl := ⟨0, 0, [⟨0, 65535, 0⟩], [⟨4, 0, 5⟩]⟩
def hereF (c : Cf) (ch : Int) : List Po := c.ps.filter fun x => !(x.ch != ch)
def entersF (H : List Po) : List Fl := enter0 :: H.flatMap fun p => [enterA p, enterB_ p]
def tellF (net ip mac : Int) : Fl := ⟨2, 1, [⟨8, 65535, net⟩, ⟨5, 65535, ip⟩], [⟨2, 1, 2⟩, ⟨1, 2, mac⟩, ⟨2, 5, 4⟩, ⟨1, 4, ip⟩, ⟨1, 3, 2⟩, ⟨2, 9, 0⟩, ⟨4, 0, 5⟩]⟩
def answerOwn (p : Po) : Fl := ⟨2, 2, [⟨0, 65535, p.id⟩, ⟨5, 65535, p.ip⟩], []⟩
def answerSw (s : Sw) : List Fl := if s.gate = 0 then [] else [tellF s.id s.gate (60000 + s.id)]
def answersF (c : Cf) (H : List Po) : List Fl := c.ps.map (fun p => tellF p.sw p.ip p.mac) ++ H.map answerOwn ++ c.ss.flatMap answerSw
def leaveM (p : Po) : List Mx := [⟨8, 65535, p.sw⟩, ⟨9, 65535, p.id⟩]
def leave1 (p : Po) : Fl := ⟨4, 0, [⟨9, 65535, p.id⟩], [⟨4, 0, 5⟩]⟩
def leave2 (p : Po) : Fl := ⟨5, 0, leaveM p ++ [⟨3, 65535, 2⟩], [⟨5, 0, p.id⟩]⟩
def leave3 (p : Po) : Fl := ⟨5, 0, leaveM p ++ [⟨3, 65535, 3⟩], [⟨4, 0, 6⟩]⟩
def leave4 (p : Po) : Fl := ⟨7, 0, [⟨9, 65535, p.id⟩], [⟨5, 0, p.id⟩]⟩
def leave5 (p : Po) : Fl := ⟨4, 0, [⟨9, 65535, p.id⟩], [⟨6, 0, p.ch⟩]⟩
def leaveF (ch : Int) (p : Po) : List Fl := if p.ch = ch then [leave1 p, leave2 p, leave3 p, leave4 p] else if 0 ≤ p.ch then [leave5 p] else []
def leavesF (c : Cf) (ch : Int) : List Fl := c.ps.flatMap (leaveF ch)
def swAt (ss : List Sw) (id : Int) : Sw := (ss.find? fun s => s.id == id).getD ⟨0, 0, 0⟩
def leadPort (p : Po) : Fl := ⟨3, 1, [⟨8, 65535, p.sw⟩, ⟨1, 65535, p.mac⟩], [⟨1, 9, p.id⟩, ⟨4, 0, 4⟩]⟩
def floodQ (p q : Po) : List Dx := if q.sw = p.sw ∧ q.id ≠ p.id ∧ 0 ≤ q.ch then [⟨1, 9, q.id⟩, ⟨6, 0, q.ch⟩] else []
def leadSelf (p : Po) : Fl := ⟨3, 2, [⟨0, 65535, p.id⟩, ⟨1, 65535, p.mac⟩], []⟩
def leadAll (c : Cf) (p : Po) : Fl := ⟨3, 2, [⟨0, 65535, p.id⟩, ⟨1, 65535, 65535⟩], c.ps.flatMap (floodQ p)⟩
def routerM (s : Sw) : List Mx := [⟨8, 65535, s.id⟩, ⟨1, 65535, 60000 + s.id⟩]
def leadTtl (s : Sw) (n : Int) : Fl := ⟨3, 4, routerM s ++ [⟨6, 65535, n⟩], []⟩
def leadTo (s : Sw) (q : Po) (t : Sw) : Fl := ⟨3, 3, routerM s ++ [⟨5, 65535, q.ip⟩], [⟨1, 1, q.mac⟩, ⟨1, 2, 60000 + t.id⟩, ⟨3, 6, 0⟩, ⟨1, 8, t.id⟩, ⟨1, 9, q.id⟩, ⟨4, 0, 4⟩]⟩
def leadSwP (c : Cf) (s : Sw) (q : Po) : List Fl := if (swAt c.ss q.sw).tenant = s.tenant ∧ (swAt c.ss q.sw).gate ≠ 0 then [leadTo s q (swAt c.ss q.sw)] else []
def leadSw (c : Cf) (s : Sw) : List Fl := if s.gate = 0 then [] else [leadTtl s 0, leadTtl s 1] ++ c.ps.flatMap (leadSwP c s)
def leadsF (c : Cf) (H : List Po) : List Fl := c.ps.map leadPort ++ (H.flatMap fun p => [leadSelf p, leadAll c p]) ++ c.ss.flatMap (leadSw c)
theorem dxOk_app {t : Int} : ∀ {l m : List Dx}, (∀ d ∈ l, ∀ b, dxMay d t b = true) → dxOk t m = true → dxOk t (l ++ m) = true
  | [], _, _, h => h
  | d :: l, m, h1, h => by
    rw [List.cons_append, dxOk, h1 d (by simp), dxOk_app (fun d hd => h1 d (by simp [hd])) h]
    rfl
theorem flsFault_all {l : List Fl} (h : ∀ f ∈ l, flFault f = 0) : flsFault l = 0 := by
  induction l with
  | nil => rfl
  | cons f l ih => rw [flsFault, if_pos (h f (by simp)), ih fun f hf => h f (by simp [hf])]
structure FrMay (f : Fr) : Prop where
  dst : 0 ≤ f.dst ∧ f.dst ≤ 65535
  src : 0 ≤ f.src ∧ f.src ≤ 65535
  kind : 1 ≤ f.kind ∧ f.kind ≤ 3
  ipSrc : 0 ≤ f.ipSrc ∧ f.ipSrc ≤ 65535
  ipDst : 0 ≤ f.ipDst ∧ f.ipDst ≤ 65535
  ttl : 0 ≤ f.ttl ∧ f.ttl ≤ 255
  port : 0 ≤ f.port ∧ f.port ≤ 65535
  body : f.body.size ≤ 40
theorem frMay {f : Fr} (h : frameFault f = 0) : FrMay f := by
  unfold frameFault at h
  split at h
  · omega
  · split at h
    · omega
    · split at h
      · omega
      · rename_i h1 h2 h3
        have hw : ∀ n, ¬ word n = false → 0 ≤ n ∧ n ≤ 65535 := fun n hn => word_iff.1 (by simpa using hn)
        refine ⟨hw _ fun h => h2 (.inl h), hw _ fun h => h2 (.inr (.inl h)), by omega, hw _ fun h => h2 (.inr (.inr (.inl h))), hw _ fun h => h2 (.inr (.inr (.inr (.inl h)))), ?_, hw _ fun h => h2 (.inr (.inr (.inr (.inr (.inl h))))), by omega⟩
        refine ⟨?_, ?_⟩
        · rcases Int.lt_or_le f.ttl 0 with h | h
          · exact absurd (.inr (.inr (.inr (.inr (.inr (.inl h)))))) h2
          · exact h
        · rcases Int.lt_or_le 255 f.ttl with h | h
          · exact absurd (.inr (.inr (.inr (.inr (.inr (.inr h)))))) h2
          · exact h
end Go.Proofs.YtmidechdlbcepaaGreat
namespace Go.Proofs.YtmidechdlbcepaaGreat
open Go.RowKit
def geA (x y : Ac) : Bool := decide (y.prio ≤ x.prio)
def sortA (l : List Ac) : List Ac := l.mergeSort geA
structure StabA (R l : List Ac) : Prop where
  ord : R.Pairwise fun x y => y.prio ≤ x.prio
  flt : ∀ p : Int, R.filter (fun x => x.prio == p) = l.filter fun x => x.prio == p
theorem StabA.mem {R l : List Ac} (h : StabA R l) {x : Ac} : x ∈ R ↔ x ∈ l := by
  have e := h.flt x.prio
  have h1 : x ∈ R.filter (fun y => y.prio == x.prio) ↔ x ∈ R := by simp
  have h2 : x ∈ l.filter (fun y => y.prio == x.prio) ↔ x ∈ l := by simp
  rw [← h1, e, h2]
theorem ord_uniq : ∀ {R S : List Ac}, R.Pairwise (fun x y => y.prio ≤ x.prio) → S.Pairwise (fun x y => y.prio ≤ x.prio) → (∀ p : Int, R.filter (fun x => x.prio == p) = S.filter fun x => x.prio == p) → R = S
  | [], [], _, _, _ => rfl
  | [], y :: S, _, _, h => by
    have := h y.prio
    simp at this
  | x :: R, [], _, _, h => by
    have := h x.prio
    simp at this
  | x :: R, y :: S, h1, h2, h => by
    obtain ⟨a1, a2⟩ := List.pairwise_cons.1 h1
    obtain ⟨b1, b2⟩ := List.pairwise_cons.1 h2
    have hxS : x ∈ y :: S := by
      have : x ∈ (y :: S).filter fun z => z.prio == x.prio := by rw [← h x.prio]; simp
      exact (List.mem_filter.1 this).1
    have hyR : y ∈ x :: R := by
      have : y ∈ (x :: R).filter fun z => z.prio == y.prio := by rw [h y.prio]; simp
      exact (List.mem_filter.1 this).1
    have hp : x.prio = y.prio := by
      rcases List.mem_cons.1 hxS with rfl | hxS
      · rfl
      · rcases List.mem_cons.1 hyR with rfl | hyR
        · rfl
        · have := b1 x hxS
          have := a1 y hyR
          omega
    have e := h x.prio
    rw [List.filter_cons, List.filter_cons, if_pos (by simp), if_pos (by simp [hp])] at e
    obtain ⟨rfl, e2⟩ := List.cons.inj e
    rw [ord_uniq a2 b2 fun p => ?_]
    have e3 := h p
    rw [List.filter_cons, List.filter_cons] at e3
    split at e3
    · exact (List.cons.inj e3).2
    · exact e3
theorem sortA_stab (l : List Ac) : StabA (sortA l) l := by
  have hperm := List.mergeSort_perm l geA
  have hs := List.pairwise_mergeSort (le := geA) (fun a b c h1 h2 => by simp only [geA, decide_eq_true_eq] at *; omega) (fun a b => by simp only [geA, Bool.or_eq_true, decide_eq_true_eq]; omega) l
  refine ⟨hs.imp fun h => by simpa [geA] using h, fun p => ?_⟩
  have h1 : (l.filter fun x => x.prio == p).Pairwise fun a b => geA a b = true := by
    rw [List.pairwise_iff_forall_sublist]
    intro a b hab
    have ha := List.mem_filter.1 (hab.mem (show a ∈ [a, b] by simp))
    have hb := List.mem_filter.1 (hab.mem (show b ∈ [a, b] by simp))
    simp only [beq_iff_eq] at ha hb
    simp only [geA, decide_eq_true_eq]
    omega
  have h2 := List.sublist_mergeSort (le := geA) (fun a b c h1 h2 => by simp only [geA, decide_eq_true_eq] at *; omega) (fun a b => by simp only [geA, Bool.or_eq_true, decide_eq_true_eq]; omega) h1 List.filter_sublist
  have h3 := h2.filter fun x => x.prio == p
  rw [List.filter_filter] at h3
  simp only [Bool.and_self] at h3
  exact (h3.eq_of_length (by
    have := (hperm.filter fun x => x.prio == p).length_eq
    exact this.symm)).symm
theorem StabA.is {R l : List Ac} (h : StabA R l) : R = sortA l := ord_uniq h.ord (sortA_stab l).ord fun p => (h.flt p).trans ((sortA_stab l).flt p).symm
theorem sortA_split {A1 A2 B1 B2 : List Ac} (h1 : ∀ x ∈ A1, ∀ y ∈ B2, y.prio ≤ x.prio) (h2 : ∀ x ∈ A1, ∀ y ∈ A2, y.prio ≤ x.prio) (h3 : ∀ x ∈ B1, ∀ y ∈ A2, y.prio < x.prio) (h4 : ∀ x ∈ B1, ∀ y ∈ B2, y.prio ≤ x.prio) :
    sortA (A1 ++ B1) ++ sortA (A2 ++ B2) = sortA (A1 ++ A2 ++ (B1 ++ B2)) := by
  have s1 := sortA_stab (A1 ++ B1)
  have s2 := sortA_stab (A2 ++ B2)
  refine StabA.is ⟨List.pairwise_append.2 ⟨s1.ord, s2.ord, fun x hx y hy => ?_⟩, fun p => ?_⟩
  · rw [s1.mem, List.mem_append] at hx
    rw [s2.mem, List.mem_append] at hy
    rcases hx with hx | hx <;> rcases hy with hy | hy
    · exact h2 x hx y hy
    · exact h1 x hx y hy
    · exact Int.le_of_lt (h3 x hx y hy)
    · exact h4 x hx y hy
  · rw [List.filter_append, s1.flt, s2.flt]
    simp only [List.filter_append]
    by_cases hA : A2.filter (fun x => x.prio == p) = []
    · rw [hA]
      simp
    · have hB : B1.filter (fun x => x.prio == p) = [] := by
        obtain ⟨y, hy⟩ := List.exists_mem_of_ne_nil _ hA
        obtain ⟨y1, y2⟩ := List.mem_filter.1 hy
        refine List.filter_eq_nil_iff.2 fun x hx hxp => ?_
        have := h3 x hx y y1
        simp only [beq_iff_eq] at hxp y2
        omega
      rw [hB]
      simp
end Go.Proofs.YtmidechdlbcepaaGreat
namespace Go.Proofs.YtmidechdlbcepaaGreat
open Go.RowKit
set_option maxRecDepth 100000
def maskN (b : Int) : Int := ((65536 - 2 ^ (16 - b.toNat) : Nat) : Int)
def ruleM (a : Ac) : List Mx := [⟨8, 65535, a.sw⟩, ⟨4, maskN a.srcBits, a.src⟩, ⟨5, maskN a.dstBits, a.dst⟩] ++ if 0 ≤ a.port then [⟨7, 65535, a.port⟩] else []
def ruleF (t next n : Int) (a : Ac) : Fl := ⟨t, n, ruleM a, if a.deny = true then [] else [⟨4, 0, next⟩]⟩
def rulesL (t next : Int) : List Ac → List Fl
  | [] => []
  | a :: l => ruleF t next ((l.length : Int) + 1) a :: rulesL t next l
def restF (t next : Int) : Fl := ⟨t, 0, [], [⟨4, 0, next⟩]⟩
def ofKind (c : Cf) (inn : Bool) : List Ac := c.acs.filter fun a => a.inn == inn
def rulesF (c : Cf) (t next : Int) (inn : Bool) : List Fl := rulesL t next (sortA (ofKind c inn)) ++ [restF t next]
theorem rulesL_len (t next : Int) : ∀ l, (rulesL t next l).length = l.length
  | [] => rfl
  | a :: l => by simp [rulesL, rulesL_len t next l]
theorem rulesL_at {t next : Int} : ∀ {l : List Ac} {k : Nat} {a : Ac}, l[k]? = some a → (rulesL t next l)[k]? = some (ruleF t next ((l.length : Int) - (k : Int)) a)
  | [], _, _, h => by simp at h
  | x :: l, 0, a, h => by
    obtain rfl := Option.some.inj h
    simp [rulesL]
  | x :: l, k + 1, a, h => by
    have ih := rulesL_at (t := t) (next := next) (l := l) (k := k) (a := a) (by simpa using h)
    simp only [rulesL, List.getElem?_cons_succ, ih, List.length_cons]
    congr 2
    omega
def allF (c : Cf) (ch : Int) : List Fl := entersF (hereF c ch) ++ rulesF c 1 3 true ++ answersF c (hereF c ch) ++ leadsF c (hereF c ch) ++ leavesF c ch ++ rulesF c 6 7 false
def compF_ (c : Cf) (ch : Int) : List Fl := sortedF (allF c ch)
theorem exec_hit {L : List Fl} {t : Int} {p : Pk} {out : List Snt} {f : Fl} (hm : f ∈ L) (ht : f.table = t) (hf : fitsB p f = true) (hu : ∀ g ∈ L, g.table = t → fitsB p g = true → g = f ∨ g.prio < f.prio) : execT L ⟨p, t, out⟩ = f.ds.foldl stepD ⟨p, -1, out⟩ := by
  have hi := bst_is L (fun f => f.table == t && fitsB p f) L.length (Nat.le_refl _)
  obtain ⟨j, hj, hj2⟩ := List.getElem_of_mem hm
  have hj3 : L[j]? = some f := by rw [List.getElem?_eq_getElem hj, hj2]
  have hq : (f.table == t && fitsB p f) = true := by rw [ht, hf]; simp
  unfold execT bestOf
  dsimp only
  rcases hi with ⟨h1, h2⟩ | ⟨k, g, h1, _, h3, h4, h5, h6⟩
  · have := h2 j f (by omega) hj hj3
    exact absurd (hq.symm.trans this) (by decide)
  · have hg : g = f := by
      simp only [Bool.and_eq_true, beq_iff_eq] at h5
      rcases hu g (List.mem_of_getElem? h4) h5.1 h5.2 with h | h
      · exact h
      · have := (h6 j f (by omega) hj hj3 hq).1
        omega
    subst hg
    rw [h1, Int.toNat_natCast, h4]
    dsimp only
    rw [if_neg (by omega)]
theorem exec_miss {L : List Fl} {t : Int} {p : Pk} {out : List Snt} (h : ∀ g ∈ L, g.table = t → fitsB p g = false) : execT L ⟨p, t, out⟩ = ⟨p, -1, out⟩ := by
  have hi := bst_is L (fun f => f.table == t && fitsB p f) L.length (Nat.le_refl _)
  unfold execT bestOf
  dsimp only
  rcases hi with ⟨h1, h2⟩ | ⟨k, g, h1, _, h3, h4, h5, h6⟩
  · rw [h1]
    split
    · rw [if_pos (by decide)]
    · rfl
  · simp only [Bool.and_eq_true, beq_iff_eq] at h5
    have := h g (List.mem_of_getElem? h4) h5.1
    rw [h5.2] at this
    cases this
def goT (L : List Fl) (s : Rs) : Rs := runN L 8 s
theorem goT_end {L : List Fl} {p : Pk} {out : List Snt} : goT L ⟨p, -1, out⟩ = ⟨p, -1, out⟩ := runN_done L 8 _ (by show (-1 : Int) < 0; decide) (by omega)
theorem goT_step {L : List Fl} {s s' : Rs} (h0 : 0 ≤ s.table ∧ s.table ≤ 7) (he : execT L s = s') (h1 : s'.table < 0 ∨ (s.table < s'.table ∧ s'.table ≤ 7)) : goT L s = goT L s' := by
  obtain ⟨k, hk, hk7⟩ : ∃ k : Nat, s.table = 7 - (k : Int) ∧ k ≤ 7 := ⟨(7 - s.table).toNat, by omega, by omega⟩
  unfold goT
  rw [runN_skip L k 7 s hk hk7, runN, if_pos hk, he]
  rcases h1 with h1 | h1
  · rw [runN_done L k _ h1 (by omega), runN_done L 8 _ h1 (by omega)]
  · obtain ⟨j, hj, hj7⟩ : ∃ j : Nat, s'.table = 7 - (j : Int) ∧ j + 1 ≤ k := ⟨(7 - s'.table).toNat, by omega, by omega⟩
    obtain ⟨m, rfl⟩ : ∃ m, k = m + 1 := ⟨k - 1, by omega⟩
    rw [runN_skip L j m s' hj (by omega), runN_skip L j 7 s' hj (by omega)]
theorem ranOf_go (L : List Fl) (p : Pk) : ranOf L p = (goT L ⟨p, 0, []⟩).out := rfl

structure Tab (c : Cf) (ch t : Int) (S : List Fl) : Prop where
  mem : ∀ g, (g ∈ compF_ c ch ∧ g.table = t) ↔ (g ∈ S ∧ g.table = t)
theorem Tab.hit {c : Cf} {ch t : Int} {S : List Fl} (hT : Tab c ch t S) {p : Pk} {out : List Snt} {f : Fl} (hm : f ∈ S) (ht : f.table = t) (hf : fitsB p f = true) (hu : ∀ g ∈ S, fitsB p g = true → g = f ∨ g.prio < f.prio) : execT (compF_ c ch) ⟨p, t, out⟩ = f.ds.foldl stepD ⟨p, -1, out⟩ :=
  exec_hit ((hT.mem f).2 ⟨hm, ht⟩).1 ht hf fun g hg htg => hu g ((hT.mem g).1 ⟨hg, htg⟩).1
theorem Tab.miss {c : Cf} {ch t : Int} {S : List Fl} (hT : Tab c ch t S) {p : Pk} {out : List Snt} (h : ∀ g ∈ S, fitsB p g = false) : execT (compF_ c ch) ⟨p, t, out⟩ = ⟨p, -1, out⟩ :=
  exec_miss fun g hg htg => h g ((hT.mem g).1 ⟨hg, htg⟩).1

theorem enters_tab {H : List Po} {g : Fl} (h : g ∈ entersF H) : g.table = 0 := by
  simp only [entersF, List.mem_cons, List.mem_flatMap, List.not_mem_nil, or_false] at h
  rcases h with rfl | ⟨p, _, rfl | rfl⟩ <;> rfl
theorem rulesL_mem {t next : Int} : ∀ {l : List Ac} {g : Fl}, g ∈ rulesL t next l → g.table = t ∧ 1 ≤ g.prio ∧ g.prio ≤ l.length ∧ ∃ a ∈ l, g = ruleF t next g.prio a
  | [], g, h => by simp [rulesL] at h
  | a :: l, g, h => by
    simp only [rulesL, List.mem_cons] at h
    rcases h with rfl | h
    · refine ⟨rfl, ?_, ?_, a, by simp, rfl⟩ <;> (simp only [ruleF, List.length_cons]; omega)
    · obtain ⟨h1, h2, h3, b, h4, h5⟩ := rulesL_mem h
      exact ⟨h1, h2, by rw [List.length_cons]; omega, b, by simp [h4], h5⟩
theorem rules_tab {c : Cf} {t next : Int} {inn : Bool} {g : Fl} (h : g ∈ rulesF c t next inn) : g.table = t := by
  simp only [rulesF, List.mem_append, List.mem_singleton] at h
  rcases h with h | rfl
  · exact (rulesL_mem h).1
  · rfl
theorem answers_tab {c : Cf} {H : List Po} {g : Fl} (h : g ∈ answersF c H) : g.table = 2 := by
  simp only [answersF, List.mem_append, List.mem_map, List.mem_flatMap] at h
  rcases h with (⟨p, _, rfl⟩ | ⟨p, _, rfl⟩) | ⟨s, _, h⟩
  · rfl
  · rfl
  · unfold answerSw at h
    split at h
    · simp at h
    · obtain rfl := List.mem_singleton.1 h
      rfl
theorem leads_tab {c : Cf} {H : List Po} {g : Fl} (h : g ∈ leadsF c H) : g.table = 3 := by
  simp only [leadsF, List.mem_append, List.mem_map, List.mem_flatMap, List.mem_cons, List.not_mem_nil, or_false] at h
  rcases h with (⟨p, _, rfl⟩ | ⟨p, _, rfl | rfl⟩) | ⟨s, _, h⟩
  · rfl
  · rfl
  · rfl
  · unfold leadSw at h
    split at h
    · simp at h
    · simp only [List.mem_append, List.mem_cons, List.not_mem_nil, or_false, List.mem_flatMap] at h
      rcases h with (rfl | rfl) | ⟨q, _, h⟩
      · rfl
      · rfl
      · unfold leadSwP at h
        split at h
        · obtain rfl := List.mem_singleton.1 h
          rfl
        · simp at h
theorem leaves_tab {c : Cf} {ch : Int} {g : Fl} (h : g ∈ leavesF c ch) : g.table = 4 ∨ g.table = 5 ∨ g.table = 7 := by
  simp only [leavesF, List.mem_flatMap] at h
  obtain ⟨p, _, h⟩ := h
  unfold leaveF at h
  split at h
  · simp only [List.mem_cons, List.not_mem_nil, or_false] at h
    rcases h with rfl | rfl | rfl | rfl
    · exact .inl rfl
    · exact .inr (.inl rfl)
    · exact .inr (.inl rfl)
    · exact .inr (.inr rfl)
  · split at h
    · obtain rfl := List.mem_singleton.1 h
      exact .inl rfl
    · simp at h
theorem comp_mem {c : Cf} {ch : Int} {g : Fl} : g ∈ compF_ c ch ↔ g ∈ entersF (hereF c ch) ∨ g ∈ rulesF c 1 3 true ∨ g ∈ answersF c (hereF c ch) ∨ g ∈ leadsF c (hereF c ch) ∨ g ∈ leavesF c ch ∨ g ∈ rulesF c 6 7 false := by
  rw [compF_, sortedF_mem, allF]
  simp only [List.mem_append, or_assoc]
section
variable (c : Cf) (ch : Int)
theorem tab0 : Tab c ch 0 (entersF (hereF c ch)) := ⟨fun g => by
  rw [comp_mem]
  constructor
  · rintro ⟨h | h | h | h | h | h, ht⟩
    · exact ⟨h, ht⟩
    · have := rules_tab h; omega
    · have := answers_tab h; omega
    · have := leads_tab h; omega
    · have := leaves_tab h; omega
    · have := rules_tab h; omega
  · rintro ⟨h, ht⟩
    exact ⟨.inl h, ht⟩⟩
theorem tab1 : Tab c ch 1 (rulesF c 1 3 true) := ⟨fun g => by
  rw [comp_mem]
  constructor
  · rintro ⟨h | h | h | h | h | h, ht⟩
    · have := enters_tab h; omega
    · exact ⟨h, ht⟩
    · have := answers_tab h; omega
    · have := leads_tab h; omega
    · have := leaves_tab h; omega
    · have := rules_tab h; omega
  · rintro ⟨h, ht⟩
    exact ⟨.inr (.inl h), ht⟩⟩
theorem tab2 : Tab c ch 2 (answersF c (hereF c ch)) := ⟨fun g => by
  rw [comp_mem]
  constructor
  · rintro ⟨h | h | h | h | h | h, ht⟩
    · have := enters_tab h; omega
    · have := rules_tab h; omega
    · exact ⟨h, ht⟩
    · have := leads_tab h; omega
    · have := leaves_tab h; omega
    · have := rules_tab h; omega
  · rintro ⟨h, ht⟩
    exact ⟨.inr (.inr (.inl h)), ht⟩⟩
theorem tab3 : Tab c ch 3 (leadsF c (hereF c ch)) := ⟨fun g => by
  rw [comp_mem]
  constructor
  · rintro ⟨h | h | h | h | h | h, ht⟩
    · have := enters_tab h; omega
    · have := rules_tab h; omega
    · have := answers_tab h; omega
    · exact ⟨h, ht⟩
    · have := leaves_tab h; omega
    · have := rules_tab h; omega
  · rintro ⟨h, ht⟩
    exact ⟨.inr (.inr (.inr (.inl h))), ht⟩⟩
theorem tab6 : Tab c ch 6 (rulesF c 6 7 false) := ⟨fun g => by
  rw [comp_mem]
  constructor
  · rintro ⟨h | h | h | h | h | h, ht⟩
    · have := enters_tab h; omega
    · have := rules_tab h; omega
    · have := answers_tab h; omega
    · have := leads_tab h; omega
    · have := leaves_tab h; omega
    · exact ⟨h, ht⟩
  · rintro ⟨h, ht⟩
    exact ⟨.inr (.inr (.inr (.inr (.inr h)))), ht⟩⟩
def leavesT (t : Int) : List Fl := (leavesF c ch).filter fun g => g.table == t
theorem tab457 {t : Int} (h457 : t = 4 ∨ t = 5 ∨ t = 7) : Tab c ch t (leavesT c ch t) := ⟨fun g => by
  rw [comp_mem, leavesT, List.mem_filter]
  constructor
  · rintro ⟨h | h | h | h | h | h, ht⟩
    · have := enters_tab h; omega
    · have := rules_tab h; omega
    · have := answers_tab h; omega
    · have := leads_tab h; omega
    · exact ⟨⟨h, by simpa using ht⟩, ht⟩
    · have := rules_tab h; omega
  · rintro ⟨⟨h, _⟩, ht⟩
    exact ⟨.inr (.inr (.inr (.inr (.inl h)))), ht⟩⟩
end
theorem maskd_all {n : Int} (h : word n = true) : maskd n 65535 = n := by
  have h := of_decide_eq_true h
  unfold maskd
  rw [show (65535 : Int).toNat = 2 ^ 16 - 1 from rfl, Nat.and_two_pow_sub_one_eq_mod, Nat.mod_eq_of_lt (by omega)]
  omega
structure PW (p : Pk) : Prop where
  w0 : word p.f0 = true
  w1 : word p.f1 = true
  w2 : word p.f2 = true
  w3 : word p.f3 = true
  w4 : word p.f4 = true
  w5 : word p.f5 = true
  w6 : word p.f6 = true
  w7 : word p.f7 = true
  w8 : word p.f8 = true
  w9 : word p.f9 = true
end Go.Proofs.YtmidechdlbcepaaGreat