import Derived.Test.YtmidechdlbcepaaGreatPack26
set_option linter.unusedSimpArgs false
set_option linter.unusedVariables false
namespace Go.Proofs.YtmidechdlbcepaaGreat
open Go.RowKit
set_option maxRecDepth 100000
theorem PW.of {p : Pk} (h : p.Wd) : PW p := ⟨h 0 (by decide), h 1 (by decide), h 2 (by decide), h 3 (by decide), h 4 (by decide), h 5 (by decide), h 6 (by decide), h 7 (by decide), h 8 (by decide), h 9 (by decide)⟩
section
theorem PW.m0 {p : Pk} (h : PW p) (v : Int) : (maskd (getP p 0) 65535 == v) = (p.f0 == v) := by rw [show getP p 0 = p.f0 from rfl, maskd_all h.w0]
theorem PW.m1 {p : Pk} (h : PW p) (v : Int) : (maskd (getP p 1) 65535 == v) = (p.f1 == v) := by rw [show getP p 1 = p.f1 from rfl, maskd_all h.w1]
theorem PW.m2 {p : Pk} (h : PW p) (v : Int) : (maskd (getP p 2) 65535 == v) = (p.f2 == v) := by rw [show getP p 2 = p.f2 from rfl, maskd_all h.w2]
theorem PW.m3 {p : Pk} (h : PW p) (v : Int) : (maskd (getP p 3) 65535 == v) = (p.f3 == v) := by rw [show getP p 3 = p.f3 from rfl, maskd_all h.w3]
theorem PW.m4 {p : Pk} (h : PW p) (v : Int) : (maskd (getP p 4) 65535 == v) = (p.f4 == v) := by rw [show getP p 4 = p.f4 from rfl, maskd_all h.w4]
theorem PW.m5 {p : Pk} (h : PW p) (v : Int) : (maskd (getP p 5) 65535 == v) = (p.f5 == v) := by rw [show getP p 5 = p.f5 from rfl, maskd_all h.w5]
theorem PW.m6 {p : Pk} (h : PW p) (v : Int) : (maskd (getP p 6) 65535 == v) = (p.f6 == v) := by rw [show getP p 6 = p.f6 from rfl, maskd_all h.w6]
theorem PW.m7 {p : Pk} (h : PW p) (v : Int) : (maskd (getP p 7) 65535 == v) = (p.f7 == v) := by rw [show getP p 7 = p.f7 from rfl, maskd_all h.w7]
theorem PW.m8 {p : Pk} (h : PW p) (v : Int) : (maskd (getP p 8) 65535 == v) = (p.f8 == v) := by rw [show getP p 8 = p.f8 from rfl, maskd_all h.w8]
theorem PW.m9 {p : Pk} (h : PW p) (v : Int) : (maskd (getP p 9) 65535 == v) = (p.f9 == v) := by rw [show getP p 9 = p.f9 from rfl, maskd_all h.w9]
end
theorem and_unit (n k : Nat) (hn : n < 65536) (hk : k ≤ 16) : n &&& (65536 - 2 ^ k) = n / 2 ^ k * 2 ^ k := by
  have e : 65536 - 2 ^ k = (2 ^ (16 - k) - 1) * 2 ^ k := by
    rw [Nat.sub_mul, ← Nat.pow_add, show 16 - k + k = 16 by omega, Nat.one_mul]
  rw [e, ← Nat.shiftLeft_eq, ← Nat.shiftLeft_eq, ← Nat.shiftRight_eq_div_pow]
  apply Nat.eq_of_testBit_eq
  intro i
  rw [Nat.testBit_and, Nat.testBit_shiftLeft, Nat.testBit_shiftLeft, Nat.testBit_shiftRight, Nat.testBit_two_pow_sub_one]
  by_cases h1 : k ≤ i
  · rw [show k + (i - k) = i by omega]
    by_cases h2 : i < 16
    · simp [h1, show i - k < 16 - k by omega]
    · rw [Nat.testBit_lt_two_pow (Nat.lt_of_lt_of_le hn (Nat.pow_le_pow_right (n := 2) (by decide) (show 16 ≤ i by omega)))]
      simp
  · simp [h1]
theorem mask_unit {n v b : Int} (hn : word n = true) (hv : 0 ≤ v ∧ v ≤ 65535) (hb : 0 ≤ b ∧ b ≤ 16) (hm : v % unitOf b = 0) : (maskd n (maskN b) == v) = (n / unitOf b == v / unitOf b) := by
  have hn := of_decide_eq_true hn
  obtain ⟨N, rfl⟩ : ∃ N : Nat, n = N := ⟨n.toNat, by omega⟩
  obtain ⟨V, rfl⟩ : ∃ V : Nat, v = V := ⟨v.toNat, by omega⟩
  obtain ⟨B, rfl⟩ : ∃ B : Nat, b = B := ⟨b.toNat, by omega⟩
  unfold maskN unitOf at *
  rw [Int.toNat_natCast] at *
  have hk : 16 - B ≤ 16 := by omega
  generalize 16 - B = k at *
  unfold maskd
  rw [Int.toNat_natCast, Int.toNat_natCast, and_unit N k (by omega) hk]
  have e2 : ((2 : Int) ^ k) = ((2 ^ k : Nat) : Int) := by simp
  rw [e2] at hm ⊢
  have hpos : 0 < 2 ^ k := Nat.two_pow_pos k
  generalize 2 ^ k = u at *
  rw [← Int.natCast_ediv, ← Int.natCast_ediv]
  rw [← Int.natCast_emod] at hm
  have hm : V % u = 0 := by omega
  have hV : V = V / u * u := by
    have := Nat.div_add_mod V u
    rw [hm, Nat.add_zero, Nat.mul_comm] at this
    exact this.symm
  rw [Bool.eq_iff_iff, beq_iff_eq, beq_iff_eq]
  constructor
  · intro h
    have h : N / u * u = V := by omega
    rw [hV] at h
    have := Nat.eq_of_mul_eq_mul_right hpos h
    omega
  · intro h
    have h : N / u = V / u := by omega
    rw [h, ← hV]
def ruleFit (net src dst port : Int) (a : Ac) : Bool := a.sw == net && (src / unitOf a.srcBits == a.src / unitOf a.srcBits && (dst / unitOf a.dstBits == a.dst / unitOf a.dstBits && (decide (a.port < 0) || a.port == port)))
theorem rule_fits {p : Pk} (h : PW p) {a : Ac} (ha : AcR a) (t next n : Int) : fitsB p (ruleF t next n a) = ruleFit p.f8 p.f4 p.f5 p.f7 a := by
  obtain ⟨⟨_, h1, h2, h3, h4, h5⟩, h6, h7⟩ := ha
  have e4 : getP p 4 = p.f4 := rfl
  have e5 : getP p 5 = p.f5 := rfl
  have hs := mask_unit h.w4 h1 h3 h6
  have hd := mask_unit h.w5 h2 h4 h7
  have c8 : (p.f8 == a.sw) = (a.sw == p.f8) := by rw [Bool.eq_iff_iff, beq_iff_eq, beq_iff_eq]; exact eq_comm
  have c7 : (p.f7 == a.port) = (a.port == p.f7) := by rw [Bool.eq_iff_iff, beq_iff_eq, beq_iff_eq]; exact eq_comm
  unfold fitsB ruleF ruleM ruleFit
  by_cases hp : 0 ≤ a.port
  · rw [if_pos hp]
    have hn : decide (a.port < 0) = false := decide_eq_false (by omega)
    show (List.all [_, _, _, _] _) = _
    simp only [List.all_cons, List.all_nil, Int.reduceToNat, h.m8, h.m7, e4, e5, hs, hd, c8, c7, hn, Bool.and_true, Bool.false_or]
  · rw [if_neg hp]
    have hn : decide (a.port < 0) = true := decide_eq_true (by omega)
    show (List.all [_, _, _] _) = _
    simp only [List.all_cons, List.all_nil, Int.reduceToNat, h.m8, e4, e5, hs, hd, c8, hn, Bool.and_true, Bool.true_or]
def allowB (c : Cf) (net : Int) (inn : Bool) (src dst port : Int) : Bool := match (sortA (ofKind c inn)).find? (ruleFit net src dst port) with
  | some a => !a.deny
  | none => true
theorem rules_first {p : Pk} (hp : PW p) (t next : Int) : ∀ {l : List Ac}, (∀ a ∈ l, AcR a) → (match l.find? (ruleFit p.f8 p.f4 p.f5 p.f7) with
    | some a => ∃ n, ruleF t next n a ∈ rulesL t next l ∧ 1 ≤ n ∧ n ≤ l.length ∧ fitsB p (ruleF t next n a) = true ∧ ∀ g ∈ rulesL t next l, fitsB p g = true → g = ruleF t next n a ∨ g.prio < n
    | none => ∀ g ∈ rulesL t next l, fitsB p g = false)
  | [], _ => by simp [rulesL]
  | x :: l, h => by
    have ih := rules_first hp t next (l := l) fun a ha => h a (by simp [ha])
    have hx := rule_fits hp (h x (by simp)) t next ((l.length : Int) + 1)
    rw [List.find?_cons]
    cases hf : ruleFit p.f8 p.f4 p.f5 p.f7 x with
    | true =>
      rw [hf] at hx
      refine ⟨(l.length : Int) + 1, by simp [rulesL], by omega, by rw [List.length_cons]; omega, hx, fun g hg _ => ?_⟩
      simp only [rulesL, List.mem_cons] at hg
      rcases hg with rfl | hg
      · exact .inl rfl
      · have := (rulesL_mem hg).2.2.1
        right
        omega
    | false =>
      rw [hf] at hx
      dsimp only
      generalize l.find? (ruleFit p.f8 p.f4 p.f5 p.f7) = o at *
      cases o with
      | none =>
        intro g hg
        simp only [rulesL, List.mem_cons] at hg
        rcases hg with rfl | hg
        · exact hx
        · exact ih g hg
      | some a =>
        obtain ⟨n, h1, h2, h3, h4, h5⟩ := ih
        refine ⟨n, by simp [rulesL, h1], h2, by rw [List.length_cons]; omega, h4, fun g hg hgf => ?_⟩
        simp only [rulesL, List.mem_cons] at hg
        rcases hg with rfl | hg
        · rw [hx] at hgf; cases hgf
        · exact h5 g hg hgf
theorem rest_fits (p : Pk) (t next : Int) : fitsB p (restF t next) = true := rfl
theorem rules_exec {c : Cf} (hc : CfOk c) {ch t next : Int} {inn : Bool} (hT : Tab c ch t (rulesF c t next inn)) {p : Pk} (hp : PW p) (out : List Snt) :
    execT (compF_ c ch) ⟨p, t, out⟩ = ⟨p, if allowB c p.f8 inn p.f4 p.f5 p.f7 = true then next else -1, out⟩ := by
  have hr : ∀ a ∈ sortA (ofKind c inn), AcR a := fun a ha => (hc.ar a (List.mem_filter.1 ((sortA_stab _).mem.1 ha)).1).1
  have h := rules_first hp t next hr
  unfold allowB
  unfold rulesF at hT
  generalize sortA (ofKind c inn) = l at *
  generalize l.find? (ruleFit p.f8 p.f4 p.f5 p.f7) = o at *
  cases o with
  | none =>
    rw [if_pos rfl]
    refine (hT.hit (f := restF t next) (by simp) rfl (rest_fits p t next) fun g hg hgf => ?_).trans rfl
    rcases List.mem_append.1 hg with hg | hg
    · have := h g hg
      rw [hgf] at this
      cases this
    · exact .inl (List.mem_singleton.1 hg)
  | some a =>
    obtain ⟨n, h1, h2, h3, h4, h5⟩ := h
    refine (hT.hit (f := ruleF t next n a) (by simp [h1]) rfl h4 fun g hg hgf => ?_).trans ?_
    · rcases List.mem_append.1 hg with hg | hg
      · exact h5 g hg hgf
      · obtain rfl := List.mem_singleton.1 hg
        right
        show (0 : Int) < n
        omega
    · show _ = (⟨p, if (!a.deny) = true then next else -1, out⟩ : Rs)
      unfold ruleF
      cases a.deny with
      | true => rfl
      | false => rfl
theorem pw_cases {α : Type} {R : α → α → Prop} : ∀ {l : List α}, l.Pairwise R → ∀ {a b : α}, a ∈ l → b ∈ l → a = b ∨ R a b ∨ R b a
  | [], _, _, _, h, _ => by simp at h
  | x :: l, h, a, b, ha, hb => by
    obtain ⟨h1, h2⟩ := List.pairwise_cons.1 h
    rcases List.mem_cons.1 ha with e | ha
    · rcases List.mem_cons.1 hb with e2 | hb
      · exact .inl (e.trans e2.symm)
      · exact .inr (.inl (e ▸ h1 b hb))
    · rcases List.mem_cons.1 hb with e2 | hb
      · exact .inr (.inr (e2 ▸ h1 a ha))
      · exact pw_cases h2 ha hb
theorem tenant_swAt (ss : List Sw) (id : Int) : tenantAt ss id = (swAt ss id).tenant := by
  unfold tenantAt swAt
  cases ss.find? (fun s => s.id == id) <;> rfl
section
theorem CfOk.id1 {c : Cf} (h : CfOk c) {p q : Po} (hp : p ∈ c.ps) (hq : q ∈ c.ps) (e : p.id = q.id) : p = q := by
  rcases pw_cases h.pd hp hq with h | h | h
  · exact h
  · exact absurd e h.1
  · exact absurd e.symm h.1
theorem CfOk.mac1 {c : Cf} (h : CfOk c) {p q : Po} (hp : p ∈ c.ps) (hq : q ∈ c.ps) (e : p.sw = q.sw) (e2 : p.mac = q.mac) : p = q := by
  rcases pw_cases h.pd hp hq with h | h | h
  · exact h
  · exact absurd ⟨e, e2⟩ h.2.1
  · exact absurd ⟨e.symm, e2.symm⟩ h.2.1
theorem CfOk.ip1 {c : Cf} (h : CfOk c) {p q : Po} (hp : p ∈ c.ps) (hq : q ∈ c.ps) (e : p.ip = q.ip) (e2 : tenantAt c.ss p.sw = tenantAt c.ss q.sw) : p = q := by
  rcases pw_cases h.pd hp hq with h | h | h
  · exact h
  · exact absurd ⟨e, e2⟩ h.2.2
  · exact absurd ⟨e.symm, e2.symm⟩ h.2.2
theorem CfOk.gate {c : Cf} (h : CfOk c) {p : Po} {s : Sw} (hp : p ∈ c.ps) (hs : s ∈ c.ss) (e : s.tenant = tenantAt c.ss p.sw) : s.gate ≠ p.ip := fun e2 => (h.pg p hp).2.2 s hs ⟨e, e2⟩
theorem CfOk.sid {c : Cf} (h : CfOk c) {s t : Sw} (hs : s ∈ c.ss) (ht : t ∈ c.ss) (e : s.id = t.id) : s = t := by
  rcases pw_cases h.sd hs ht with h | h | h
  · exact h
  · exact absurd e h.1
  · exact absurd e.symm h.1
theorem CfOk.swIn {c : Cf} (h : CfOk c) {p : Po} (hp : p ∈ c.ps) : swAt c.ss p.sw ∈ c.ss ∧ (swAt c.ss p.sw).id = p.sw := by
  obtain ⟨x, hx, e⟩ := (h.pg p hp).2.1
  unfold swAt
  cases hf : c.ss.find? (fun s => s.id == p.sw) with
  | none =>
    have := List.find?_eq_none.1 hf x hx
    simp [e] at this
  | some y =>
    have h1 := List.find?_some hf
    exact ⟨List.mem_of_find?_eq_some hf, by simpa using h1⟩
theorem CfOk.swIs {c : Cf} (h : CfOk c) {s : Sw} (hs : s ∈ c.ss) : swAt c.ss s.id = s := by
  unfold swAt
  cases hf : c.ss.find? (fun x => x.id == s.id) with
  | none =>
    have := List.find?_eq_none.1 hf s hs
    simp at this
  | some y =>
    have h1 := List.find?_some hf
    exact h.sid (List.mem_of_find?_eq_some hf) hs (by simpa using h1)
end
def poAt (c : Cf) (n : Int) : Option Po := c.ps.find? fun p => p.id == n
theorem poAt_mem {c : Cf} {n : Int} {q : Po} (h : poAt c n = some q) : q ∈ c.ps ∧ q.id = n := by
  have h1 := List.find?_some h
  exact ⟨List.mem_of_find?_eq_some h, by simpa using h1⟩
theorem poAt_is {c : Cf} (h : CfOk c) {q : Po} (hq : q ∈ c.ps) : poAt c q.id = some q := by
  cases hf : poAt c q.id with
  | none =>
    have := List.find?_eq_none.1 hf q hq
    simp at this
  | some y =>
    obtain ⟨h1, h2⟩ := poAt_mem hf
    rw [h.id1 h1 hq h2]
theorem poAt_none {c : Cf} {n : Int} (h : poAt c n = none) {q : Po} (hq : q ∈ c.ps) : q.id ≠ n := by
  have := List.find?_eq_none.1 h q hq
  simpa using this
theorem here_mem {c : Cf} {ch : Int} {q : Po} : q ∈ hereF c ch ↔ q ∈ c.ps ∧ q.ch = ch := by
  unfold hereF
  rw [List.mem_filter]
  simp
theorem enters_mem {c : Cf} {ch : Int} {g : Fl} : g ∈ entersF (hereF c ch) ↔ g = enter0 ∨ ∃ q, (q ∈ c.ps ∧ q.ch = ch) ∧ (g = enterA q ∨ g = enterB_ q) := by
  simp only [entersF, List.mem_cons, List.mem_flatMap, List.not_mem_nil, or_false, here_mem]
section
theorem fits_enter0 {p : Pk} (h : PW p) : fitsB p enter0 = true ↔ p.f0 = 0 := by
  simp only [fitsB, enter0, List.all_cons, List.all_nil, Int.reduceToNat, h.m0, Bool.and_true, beq_iff_eq]
theorem fits_enterA {p : Pk} (h : PW p) (q : Po) : fitsB p (enterA q) = true ↔ p.f0 = q.id ∧ p.f2 = q.mac ∧ p.f4 = q.ip ∧ p.f3 = 3 := by
  simp only [fitsB, enterA, enterM, List.cons_append, List.nil_append, List.all_cons, List.all_nil, Int.reduceToNat, h.m0, h.m2, h.m4, h.m3, Bool.and_true, Bool.and_eq_true, beq_iff_eq]
theorem fits_enterB {p : Pk} (h : PW p) (q : Po) : fitsB p (enterB_ q) = true ↔ p.f0 = q.id ∧ p.f2 = q.mac ∧ p.f4 = q.ip ∧ p.f3 = 1 := by
  simp only [fitsB, enterB_, enterM, List.cons_append, List.nil_append, List.all_cons, List.all_nil, Int.reduceToNat, h.m0, h.m2, h.m4, h.m3, Bool.and_true, Bool.and_eq_true, beq_iff_eq]
theorem fits_leave1 {p : Pk} (h : PW p) (q : Po) : fitsB p (leave1 q) = true ↔ p.f9 = q.id := by
  simp only [fitsB, leave1, List.all_cons, List.all_nil, Int.reduceToNat, h.m9, Bool.and_true, beq_iff_eq]
theorem fits_leave5 {p : Pk} (h : PW p) (q : Po) : fitsB p (leave5 q) = true ↔ p.f9 = q.id := by
  simp only [fitsB, leave5, List.all_cons, List.all_nil, Int.reduceToNat, h.m9, Bool.and_true, beq_iff_eq]
theorem fits_leave4 {p : Pk} (h : PW p) (q : Po) : fitsB p (leave4 q) = true ↔ p.f9 = q.id := by
  simp only [fitsB, leave4, List.all_cons, List.all_nil, Int.reduceToNat, h.m9, Bool.and_true, beq_iff_eq]
theorem fits_leave2 {p : Pk} (h : PW p) (q : Po) : fitsB p (leave2 q) = true ↔ p.f8 = q.sw ∧ p.f9 = q.id ∧ p.f3 = 2 := by
  simp only [fitsB, leave2, leaveM, List.cons_append, List.nil_append, List.all_cons, List.all_nil, Int.reduceToNat, h.m8, h.m9, h.m3, Bool.and_true, Bool.and_eq_true, beq_iff_eq]
theorem fits_leave3 {p : Pk} (h : PW p) (q : Po) : fitsB p (leave3 q) = true ↔ p.f8 = q.sw ∧ p.f9 = q.id ∧ p.f3 = 3 := by
  simp only [fitsB, leave3, leaveM, List.cons_append, List.nil_append, List.all_cons, List.all_nil, Int.reduceToNat, h.m8, h.m9, h.m3, Bool.and_true, Bool.and_eq_true, beq_iff_eq]
end
theorem leaves_mem {c : Cf} {ch : Int} {g : Fl} : g ∈ leavesF c ch ↔ ∃ q ∈ c.ps, (q.ch = ch ∧ (g = leave1 q ∨ g = leave2 q ∨ g = leave3 q ∨ g = leave4 q)) ∨ (q.ch ≠ ch ∧ 0 ≤ q.ch ∧ g = leave5 q) := by
  unfold leavesF
  rw [List.mem_flatMap]
  constructor
  · rintro ⟨q, hq, h⟩
    refine ⟨q, hq, ?_⟩
    unfold leaveF at h
    split at h
    · rename_i e
      simp only [List.mem_cons, List.not_mem_nil, or_false] at h
      exact .inl ⟨e, h⟩
    · rename_i e
      split at h
      · rename_i e2
        exact .inr ⟨e, e2, List.mem_singleton.1 h⟩
      · simp at h
  · rintro ⟨q, hq, h⟩
    refine ⟨q, hq, ?_⟩
    unfold leaveF
    rcases h with ⟨e, h⟩ | ⟨e1, e2, h⟩
    · rw [if_pos e]
      simp only [List.mem_cons, List.not_mem_nil, or_false]
      exact h
    · rw [if_neg e1, if_pos e2, h]
      simp
theorem leaves4_mem {c : Cf} {ch : Int} {g : Fl} : g ∈ leavesT c ch 4 ↔ ∃ q ∈ c.ps, (q.ch = ch ∧ g = leave1 q) ∨ (q.ch ≠ ch ∧ 0 ≤ q.ch ∧ g = leave5 q) := by
  unfold leavesT
  rw [List.mem_filter, leaves_mem]
  constructor
  · rintro ⟨⟨q, hq, ⟨e, rfl | rfl | rfl | rfl⟩ | h⟩, ht⟩
    · exact ⟨q, hq, .inl ⟨e, rfl⟩⟩
    · cases ht
    · cases ht
    · cases ht
    · exact ⟨q, hq, .inr h⟩
  · rintro ⟨q, hq, ⟨e, rfl⟩ | ⟨e1, e2, rfl⟩⟩
    · exact ⟨⟨q, hq, .inl ⟨e, .inl rfl⟩⟩, rfl⟩
    · exact ⟨⟨q, hq, .inr ⟨e1, e2, rfl⟩⟩, rfl⟩
theorem leaves5_mem {c : Cf} {ch : Int} {g : Fl} : g ∈ leavesT c ch 5 ↔ ∃ q ∈ c.ps, q.ch = ch ∧ (g = leave2 q ∨ g = leave3 q) := by
  unfold leavesT
  rw [List.mem_filter, leaves_mem]
  constructor
  · rintro ⟨⟨q, hq, ⟨e, rfl | rfl | rfl | rfl⟩ | ⟨_, _, rfl⟩⟩, ht⟩
    · cases ht
    · exact ⟨q, hq, e, .inl rfl⟩
    · exact ⟨q, hq, e, .inr rfl⟩
    · cases ht
    · cases ht
  · rintro ⟨q, hq, e, rfl | rfl⟩
    · exact ⟨⟨q, hq, .inl ⟨e, .inr (.inl rfl)⟩⟩, rfl⟩
    · exact ⟨⟨q, hq, .inl ⟨e, .inr (.inr (.inl rfl))⟩⟩, rfl⟩
theorem leaves7_mem {c : Cf} {ch : Int} {g : Fl} : g ∈ leavesT c ch 7 ↔ ∃ q ∈ c.ps, q.ch = ch ∧ g = leave4 q := by
  unfold leavesT
  rw [List.mem_filter, leaves_mem]
  constructor
  · rintro ⟨⟨q, hq, ⟨e, rfl | rfl | rfl | rfl⟩ | ⟨_, _, rfl⟩⟩, ht⟩
    · cases ht
    · cases ht
    · cases ht
    · exact ⟨q, hq, e, rfl⟩
    · cases ht
  · rintro ⟨q, hq, e, rfl⟩
    exact ⟨⟨q, hq, .inl ⟨e, .inr (.inr (.inr rfl))⟩⟩, rfl⟩
def comesP (c : Cf) (ch : Int) (p : Pk) : Bool := match poAt c p.f9 with
  | some q => q.ch == ch && (q.sw == p.f8 && (p.f3 == 2 || (p.f3 == 3 && allowB c p.f8 false p.f4 p.f5 p.f7)))
  | none => false
def comeS (c : Cf) (ch : Int) (p : Pk) : List Snt := if comesP c ch p = true then [⟨5, p.f9, p⟩] else []
section
theorem come_go {c : Cf} (hc : CfOk c) (ch : Int) {p : Pk} (hp : PW p) (out : List Snt) : goT (compF_ c ch) ⟨p, 5, out⟩ = ⟨p, -1, out ++ comeS c ch p⟩ := by
  have hT := tab457 c ch (t := 5) (by omega)
  have hmiss : (∀ q ∈ c.ps, q.ch = ch → q.id = p.f9 → q.sw = p.f8 → p.f3 ≠ 2 ∧ p.f3 ≠ 3) → goT (compF_ c ch) ⟨p, 5, out⟩ = ⟨p, -1, out⟩ := fun hn => by
    have hx : execT (compF_ c ch) ⟨p, 5, out⟩ = ⟨p, -1, out⟩ := hT.miss fun g hg => by
      obtain ⟨q, hq, e, h⟩ := leaves5_mem.1 hg
      rw [Bool.eq_false_iff]
      intro hf
      rcases h with rfl | rfl
      · obtain ⟨h1, h2, h3⟩ := (fits_leave2 hp q).1 hf
        exact (hn q hq e h2.symm h1.symm).1 h3
      · obtain ⟨h1, h2, h3⟩ := (fits_leave3 hp q).1 hf
        exact (hn q hq e h2.symm h1.symm).2 h3
    rw [goT_step (by dsimp only; omega) hx (.inl (by show (-1 : Int) < 0; decide)), goT_end]
  unfold comeS comesP
  cases hpo : poAt c p.f9 with
  | none =>
    dsimp only
    rw [if_neg (by decide), List.append_nil]
    exact hmiss fun q hq _ e => absurd e (poAt_none hpo hq)
  | some q =>
    obtain ⟨hq, hid⟩ := poAt_mem hpo
    dsimp only
    by_cases h1 : q.ch = ch
    case neg =>
      rw [if_neg (by simp [h1]), List.append_nil]
      exact hmiss fun r hr e e2 => absurd e (by rw [hc.id1 hr hq (e2.trans hid.symm)]; exact h1)
    by_cases h2 : q.sw = p.f8
    case neg =>
      rw [if_neg (by simp [h2]), List.append_nil]
      exact hmiss fun r hr _ e2 e3 => absurd e3 (by rw [hc.id1 hr hq (e2.trans hid.symm)]; exact h2)
    by_cases h3 : p.f3 = 2
    · rw [if_pos (by simp [h1, h2, h3])]
      have hx : execT (compF_ c ch) ⟨p, 5, out⟩ = ⟨p, -1, out ++ [⟨5, q.id, p⟩]⟩ := hT.hit (f := leave2 q) (leaves5_mem.2 ⟨q, hq, h1, .inl rfl⟩) rfl ((fits_leave2 hp q).2 ⟨h2.symm, hid.symm, h3⟩) fun g hg hgf => by
        obtain ⟨r, hr, e, h⟩ := leaves5_mem.1 hg
        left
        rcases h with rfl | rfl
        · rw [hc.id1 hr hq (by have := ((fits_leave2 hp r).1 hgf).2.1; omega)]
        · have := ((fits_leave3 hp r).1 hgf).2.2
          omega
      rw [goT_step (by dsimp only; omega) hx (.inl (by show (-1 : Int) < 0; decide)), goT_end, hid]
    by_cases h4 : p.f3 = 3
    case neg =>
      rw [if_neg (by simp [h3, h4]), List.append_nil]
      exact hmiss fun _ _ _ _ _ => ⟨h3, h4⟩
    have hx : execT (compF_ c ch) ⟨p, 5, out⟩ = ⟨p, 6, out⟩ := hT.hit (f := leave3 q) (leaves5_mem.2 ⟨q, hq, h1, .inr rfl⟩) rfl ((fits_leave3 hp q).2 ⟨h2.symm, hid.symm, h4⟩) fun g hg hgf => by
      obtain ⟨r, hr, e, h⟩ := leaves5_mem.1 hg
      left
      rcases h with rfl | rfl
      · have := ((fits_leave2 hp r).1 hgf).2.2
        omega
      · rw [hc.id1 hr hq (by have := ((fits_leave3 hp r).1 hgf).2.1; omega)]
    rw [goT_step (by dsimp only; omega) hx (.inr (by dsimp only; omega))]
    cases ha : allowB c p.f8 false p.f4 p.f5 p.f7 with
    | false =>
      have hx := rules_exec hc (tab6 c ch) hp out
      rw [ha, if_neg (by decide)] at hx
      rw [goT_step (by dsimp only; omega) hx (.inl (by show (-1 : Int) < 0; decide)), goT_end, if_neg (by simp [h3]), List.append_nil]
    | true =>
      have hx := rules_exec hc (tab6 c ch) hp out
      rw [ha, if_pos rfl] at hx
      rw [goT_step (by dsimp only; omega) hx (.inr (by dsimp only; omega)), if_pos (by simp [h1, h2, h4])]
      have hT7 := tab457 c ch (t := 7) (by omega)
      have hx7 : execT (compF_ c ch) ⟨p, 7, out⟩ = ⟨p, -1, out ++ [⟨5, q.id, p⟩]⟩ := hT7.hit (f := leave4 q) (leaves7_mem.2 ⟨q, hq, h1, rfl⟩) rfl ((fits_leave4 hp q).2 hid.symm) fun g hg hgf => by
        obtain ⟨r, hr, e, rfl⟩ := leaves7_mem.1 hg
        left
        rw [hc.id1 hr hq (by have := (fits_leave4 hp r).1 hgf; omega)]
      rw [goT_step (by dsimp only; omega) hx7 (.inl (by show (-1 : Int) < 0; decide)), goT_end, hid]
def leaveS (c : Cf) (ch : Int) (p : Pk) : List Snt := match poAt c p.f9 with
  | some q => if q.ch = ch then comeS c ch p else if 0 ≤ q.ch then [⟨6, q.ch, p⟩] else []
  | none => []
theorem leave_go {c : Cf} (hc : CfOk c) (ch : Int) {p : Pk} (hp : PW p) (out : List Snt) : goT (compF_ c ch) ⟨p, 4, out⟩ = ⟨p, -1, out ++ leaveS c ch p⟩ := by
  have hT := tab457 c ch (t := 4) (by omega)
  unfold leaveS
  cases hpo : poAt c p.f9 with
  | none =>
    have hx : execT (compF_ c ch) ⟨p, 4, out⟩ = ⟨p, -1, out⟩ := hT.miss fun g hg => by
      obtain ⟨q, hq, h⟩ := leaves4_mem.1 hg
      rw [Bool.eq_false_iff]
      intro hf
      refine poAt_none hpo hq ?_
      rcases h with ⟨_, rfl⟩ | ⟨_, _, rfl⟩
      · exact ((fits_leave1 hp q).1 hf).symm
      · exact ((fits_leave5 hp q).1 hf).symm
    rw [goT_step (by dsimp only; omega) hx (.inl (by show (-1 : Int) < 0; decide)), goT_end, List.append_nil]
  | some q =>
    obtain ⟨hq, hid⟩ := poAt_mem hpo
    have huni : ∀ g ∈ leavesT c ch 4, fitsB p g = true → (q.ch = ch ∧ g = leave1 q) ∨ (q.ch ≠ ch ∧ 0 ≤ q.ch ∧ g = leave5 q) := fun g hg hgf => by
      obtain ⟨r, hr, h⟩ := leaves4_mem.1 hg
      have e : r = q := hc.id1 hr hq (by
        rcases h with ⟨_, rfl⟩ | ⟨_, _, rfl⟩
        · have := (fits_leave1 hp r).1 hgf; omega
        · have := (fits_leave5 hp r).1 hgf; omega)
      rw [e] at h
      exact h
    dsimp only
    by_cases h1 : q.ch = ch
    · have hx : execT (compF_ c ch) ⟨p, 4, out⟩ = ⟨p, 5, out⟩ := hT.hit (f := leave1 q) (leaves4_mem.2 ⟨q, hq, .inl ⟨h1, rfl⟩⟩) rfl ((fits_leave1 hp q).2 hid.symm) fun g hg hgf => by
        rcases huni g hg hgf with h | h
        · exact .inl h.2
        · exact absurd h1 h.1
      rw [if_pos h1, goT_step (by dsimp only; omega) hx (.inr (by dsimp only; omega)), come_go hc ch hp]
    rw [if_neg h1]
    by_cases h2 : 0 ≤ q.ch
    · have hx : execT (compF_ c ch) ⟨p, 4, out⟩ = ⟨p, -1, out ++ [⟨6, q.ch, p⟩]⟩ := hT.hit (f := leave5 q) (leaves4_mem.2 ⟨q, hq, .inr ⟨h1, h2, rfl⟩⟩) rfl ((fits_leave5 hp q).2 hid.symm) fun g hg hgf => by
        rcases huni g hg hgf with h | h
        · exact absurd h.1 h1
        · exact .inl h.2.2
      rw [if_pos h2, goT_step (by dsimp only; omega) hx (.inl (by show (-1 : Int) < 0; decide)), goT_end]
    · have hx : execT (compF_ c ch) ⟨p, 4, out⟩ = ⟨p, -1, out⟩ := hT.miss fun g hg => by
        rw [Bool.eq_false_iff]
        intro hf
        rcases huni g hg hf with h | h
        · exact h1 h.1
        · exact h2 h.2.1
      rw [if_neg h2, goT_step (by dsimp only; omega) hx (.inl (by show (-1 : Int) < 0; decide)), goT_end, List.append_nil]
theorem enter_tunnel {c : Cf} (hc : CfOk c) (ch : Int) {p : Pk} (hp : PW p) (out : List Snt) (h0 : p.f0 = 0) : goT (compF_ c ch) ⟨p, 0, out⟩ = ⟨p, -1, out ++ comeS c ch p⟩ := by
  have hx : execT (compF_ c ch) ⟨p, 0, out⟩ = ⟨p, 5, out⟩ := (tab0 c ch).hit (f := enter0) (enters_mem.2 (.inl rfl)) rfl ((fits_enter0 hp).2 h0) fun g hg hgf => by
    rcases enters_mem.1 hg with h | ⟨q, hq, rfl | rfl⟩
    · exact .inl h
    · have := ((fits_enterA hp q).1 hgf).1
      have := (hc.pg q hq.1).1.1
      omega
    · have := ((fits_enterB hp q).1 hgf).1
      have := (hc.pg q hq.1).1.1
      omega
  rw [goT_step (by dsimp only; omega) hx (.inr (by dsimp only; omega)), come_go hc ch hp]
theorem enter_none {c : Cf} (ch : Int) {p : Pk} (hp : PW p) (out : List Snt) (h0 : p.f0 ≠ 0) (hn : ∀ q ∈ c.ps, q.ch = ch → p.f0 = q.id → p.f2 = q.mac → p.f4 = q.ip → p.f3 ≠ 3 ∧ p.f3 ≠ 1) : goT (compF_ c ch) ⟨p, 0, out⟩ = ⟨p, -1, out⟩ := by
  have hx : execT (compF_ c ch) ⟨p, 0, out⟩ = ⟨p, -1, out⟩ := (tab0 c ch).miss fun g hg => by
    rw [Bool.eq_false_iff]
    intro hf
    rcases enters_mem.1 hg with rfl | ⟨q, ⟨hq, e⟩, rfl | rfl⟩
    · exact h0 ((fits_enter0 hp).1 hf)
    · obtain ⟨h1, h2, h3, h4⟩ := (fits_enterA hp q).1 hf
      exact (hn q hq e h1 h2 h3).1 h4
    · obtain ⟨h1, h2, h3, h4⟩ := (fits_enterB hp q).1 hf
      exact (hn q hq e h1 h2 h3).2 h4
  rw [goT_step (by dsimp only; omega) hx (.inl (by show (-1 : Int) < 0; decide)), goT_end]
theorem enter_data {c : Cf} (hc : CfOk c) (ch : Int) {p : Pk} (hp : PW p) (out : List Snt) {q : Po} (hq : q ∈ c.ps) (hch : q.ch = ch) (h0 : p.f0 = q.id) (h2 : p.f2 = q.mac) (h4 : p.f4 = q.ip) (h3 : p.f3 = 3) : goT (compF_ c ch) ⟨p, 0, out⟩ = goT (compF_ c ch) ⟨{ p with f8 := q.sw }, 1, out⟩ := by
  have hqr := (hc.pg q hq).1.1
  have hx : execT (compF_ c ch) ⟨p, 0, out⟩ = ⟨{ p with f8 := q.sw }, 1, out⟩ := (tab0 c ch).hit (f := enterA q) (enters_mem.2 (.inr ⟨q, ⟨hq, hch⟩, .inl rfl⟩)) rfl ((fits_enterA hp q).2 ⟨h0, h2, h4, h3⟩) fun g hg hgf => by
    rcases enters_mem.1 hg with rfl | ⟨r, ⟨hr, e⟩, rfl | rfl⟩
    · have := (fits_enter0 hp).1 hgf
      omega
    · left
      rw [hc.id1 hr hq (by have := ((fits_enterA hp r).1 hgf).1; omega)]
    · have := ((fits_enterB hp r).1 hgf).2.2.2
      omega
  rw [goT_step (by dsimp only; omega) hx (.inr (by dsimp only; omega))]
theorem enter_ask {c : Cf} (hc : CfOk c) (ch : Int) {p : Pk} (hp : PW p) (out : List Snt) {q : Po} (hq : q ∈ c.ps) (hch : q.ch = ch) (h0 : p.f0 = q.id) (h2 : p.f2 = q.mac) (h4 : p.f4 = q.ip) (h3 : p.f3 = 1) : goT (compF_ c ch) ⟨p, 0, out⟩ = goT (compF_ c ch) ⟨{ p with f8 := q.sw }, 2, out⟩ := by
  have hqr := (hc.pg q hq).1.1
  have hx : execT (compF_ c ch) ⟨p, 0, out⟩ = ⟨{ p with f8 := q.sw }, 2, out⟩ := (tab0 c ch).hit (f := enterB_ q) (enters_mem.2 (.inr ⟨q, ⟨hq, hch⟩, .inr rfl⟩)) rfl ((fits_enterB hp q).2 ⟨h0, h2, h4, h3⟩) fun g hg hgf => by
    rcases enters_mem.1 hg with rfl | ⟨r, ⟨hr, e⟩, rfl | rfl⟩
    · have := (fits_enter0 hp).1 hgf
      omega
    · have := ((fits_enterA hp r).1 hgf).2.2.2
      omega
    · left
      rw [hc.id1 hr hq (by have := ((fits_enterB hp r).1 hgf).1; omega)]
  rw [goT_step (by dsimp only; omega) hx (.inr (by dsimp only; omega))]
end
section
theorem fits_tell {p : Pk} (h : PW p) (net ip mac : Int) : fitsB p (tellF net ip mac) = true ↔ p.f8 = net ∧ p.f5 = ip := by
  simp only [fitsB, tellF, List.all_cons, List.all_nil, Int.reduceToNat, h.m8, h.m5, Bool.and_true, Bool.and_eq_true, beq_iff_eq]
theorem fits_own {p : Pk} (h : PW p) (q : Po) : fitsB p (answerOwn q) = true ↔ p.f0 = q.id ∧ p.f5 = q.ip := by
  simp only [fitsB, answerOwn, List.all_cons, List.all_nil, Int.reduceToNat, h.m0, h.m5, Bool.and_true, Bool.and_eq_true, beq_iff_eq]
theorem fits_port {p : Pk} (h : PW p) (q : Po) : fitsB p (leadPort q) = true ↔ p.f8 = q.sw ∧ p.f1 = q.mac := by
  simp only [fitsB, leadPort, List.all_cons, List.all_nil, Int.reduceToNat, h.m8, h.m1, Bool.and_true, Bool.and_eq_true, beq_iff_eq]
theorem fits_self {p : Pk} (h : PW p) (q : Po) : fitsB p (leadSelf q) = true ↔ p.f0 = q.id ∧ p.f1 = q.mac := by
  simp only [fitsB, leadSelf, List.all_cons, List.all_nil, Int.reduceToNat, h.m0, h.m1, Bool.and_true, Bool.and_eq_true, beq_iff_eq]
theorem fits_all {p : Pk} (h : PW p) (c : Cf) (q : Po) : fitsB p (leadAll c q) = true ↔ p.f0 = q.id ∧ p.f1 = 65535 := by
  simp only [fitsB, leadAll, List.all_cons, List.all_nil, Int.reduceToNat, h.m0, h.m1, Bool.and_true, Bool.and_eq_true, beq_iff_eq]
theorem fits_ttl {p : Pk} (h : PW p) (s : Sw) (n : Int) : fitsB p (leadTtl s n) = true ↔ p.f8 = s.id ∧ p.f1 = 60000 + s.id ∧ p.f6 = n := by
  simp only [fitsB, leadTtl, routerM, List.cons_append, List.nil_append, List.all_cons, List.all_nil, Int.reduceToNat, h.m8, h.m1, h.m6, Bool.and_true, Bool.and_eq_true, beq_iff_eq]
theorem fits_to {p : Pk} (h : PW p) (s : Sw) (q : Po) (t : Sw) : fitsB p (leadTo s q t) = true ↔ p.f8 = s.id ∧ p.f1 = 60000 + s.id ∧ p.f5 = q.ip := by
  simp only [fitsB, leadTo, routerM, List.cons_append, List.nil_append, List.all_cons, List.all_nil, Int.reduceToNat, h.m8, h.m1, h.m5, Bool.and_true, Bool.and_eq_true, beq_iff_eq]
end
theorem answers_mem {c : Cf} {ch : Int} {g : Fl} : g ∈ answersF c (hereF c ch) ↔ (∃ q ∈ c.ps, g = tellF q.sw q.ip q.mac) ∨ (∃ q, (q ∈ c.ps ∧ q.ch = ch) ∧ g = answerOwn q) ∨ ∃ s ∈ c.ss, s.gate ≠ 0 ∧ g = tellF s.id s.gate (60000 + s.id) := by
  unfold answersF
  rw [List.mem_append, List.mem_append, List.mem_map, List.mem_map, List.mem_flatMap, or_assoc]
  refine or_congr ⟨?_, ?_⟩ (or_congr ⟨?_, ?_⟩ ⟨?_, ?_⟩)
  · rintro ⟨q, hq, rfl⟩; exact ⟨q, hq, rfl⟩
  · rintro ⟨q, hq, rfl⟩; exact ⟨q, hq, rfl⟩
  · rintro ⟨q, hq, rfl⟩; exact ⟨q, here_mem.1 hq, rfl⟩
  · rintro ⟨q, hq, rfl⟩; exact ⟨q, here_mem.2 hq, rfl⟩
  · rintro ⟨s, hs, h⟩
    refine ⟨s, hs, ?_⟩
    unfold answerSw at h
    split at h
    · simp at h
    · rename_i e
      exact ⟨e, List.mem_singleton.1 h⟩
  · rintro ⟨s, hs, h1, rfl⟩
    refine ⟨s, hs, ?_⟩
    rw [answerSw, if_neg h1]
    simp
theorem leads_mem {c : Cf} {ch : Int} {g : Fl} : g ∈ leadsF c (hereF c ch) ↔ (∃ q ∈ c.ps, g = leadPort q) ∨ (∃ q, (q ∈ c.ps ∧ q.ch = ch) ∧ (g = leadSelf q ∨ g = leadAll c q)) ∨ ∃ s ∈ c.ss, s.gate ≠ 0 ∧ (g = leadTtl s 0 ∨ g = leadTtl s 1 ∨ ∃ q ∈ c.ps, (swAt c.ss q.sw).tenant = s.tenant ∧ (swAt c.ss q.sw).gate ≠ 0 ∧ g = leadTo s q (swAt c.ss q.sw)) := by
  unfold leadsF
  rw [List.mem_append, List.mem_append, List.mem_map, List.mem_flatMap, List.mem_flatMap, or_assoc]
  refine or_congr ⟨?_, ?_⟩ (or_congr ⟨?_, ?_⟩ ⟨?_, ?_⟩)
  · rintro ⟨q, hq, rfl⟩; exact ⟨q, hq, rfl⟩
  · rintro ⟨q, hq, rfl⟩; exact ⟨q, hq, rfl⟩
  · rintro ⟨q, hq, h⟩
    simp only [List.mem_cons, List.not_mem_nil, or_false] at h
    exact ⟨q, here_mem.1 hq, h⟩
  · rintro ⟨q, hq, h⟩
    refine ⟨q, here_mem.2 hq, ?_⟩
    simp only [List.mem_cons, List.not_mem_nil, or_false]
    exact h
  · rintro ⟨s, hs, h⟩
    refine ⟨s, hs, ?_⟩
    unfold leadSw at h
    split at h
    · simp at h
    · rename_i e
      refine ⟨e, ?_⟩
      simp only [List.mem_append, List.mem_cons, List.not_mem_nil, or_false, List.mem_flatMap] at h
      rcases h with (h | h) | ⟨q, hq, h⟩
      · exact .inl h
      · exact .inr (.inl h)
      · unfold leadSwP at h
        split at h
        · rename_i e2
          exact .inr (.inr ⟨q, hq, e2.1, e2.2, List.mem_singleton.1 h⟩)
        · simp at h
  · rintro ⟨s, hs, h1, h⟩
    refine ⟨s, hs, ?_⟩
    rw [leadSw, if_neg h1]
    simp only [List.mem_append, List.mem_cons, List.not_mem_nil, or_false, List.mem_flatMap]
    rcases h with h | h | ⟨q, hq, e1, e2, h⟩
    · exact .inl (.inl h)
    · exact .inl (.inr h)
    · refine .inr ⟨q, hq, ?_⟩
      rw [leadSwP, if_pos ⟨e1, e2⟩, h]
      simp
def toldP (p : Pk) (ip mac : Int) : Pk := { p with f1 := p.f2, f2 := mac, f5 := p.f4, f4 := ip, f3 := 2, f9 := p.f0 }
theorem told_do (p : Pk) (net ip mac : Int) (out : List Snt) : (tellF net ip mac).ds.foldl stepD ⟨p, -1, out⟩ = ⟨toldP p ip mac, 5, out⟩ := rfl
def ledP (p : Pk) (q : Po) (t : Sw) : Pk := { p with f1 := q.mac, f2 := 60000 + t.id, f6 := (if 0 > p.f6 - 1 then 0 else p.f6 - 1), f8 := t.id, f9 := q.id }
theorem led_do (p : Pk) (s : Sw) (q : Po) (t : Sw) (out : List Snt) : (leadTo s q t).ds.foldl stepD ⟨p, -1, out⟩ = ⟨ledP p q t, 4, out⟩ := rfl
theorem lead_do (p : Pk) (q : Po) (out : List Snt) : (leadPort q).ds.foldl stepD ⟨p, -1, out⟩ = ⟨{ p with f9 := q.id }, 4, out⟩ := rfl
def floodS (p : Pk) (q r : Po) : List Snt := if r.sw = q.sw ∧ r.id ≠ q.id ∧ 0 ≤ r.ch then [⟨6, r.ch, { p with f9 := r.id }⟩] else []
theorem flood_do (q : Po) : ∀ (l : List Po) (p : Pk) (out : List Snt), ∃ v, (l.flatMap (floodQ q)).foldl stepD ⟨p, -1, out⟩ = ⟨{ p with f9 := v }, -1, out ++ l.flatMap (floodS p q)⟩
  | [], p, out => ⟨p.f9, by simp⟩
  | r :: l, p, out => by
    rw [List.flatMap_cons, List.flatMap_cons, List.foldl_append]
    unfold floodQ floodS
    by_cases h : r.sw = q.sw ∧ r.id ≠ q.id ∧ 0 ≤ r.ch
    · rw [if_pos h, if_pos h]
      obtain ⟨v, hv⟩ := flood_do q l { p with f9 := r.id } (out ++ [⟨6, r.ch, { p with f9 := r.id }⟩])
      refine ⟨v, ?_⟩
      have e : ([⟨1, 9, r.id⟩, ⟨6, 0, r.ch⟩] : List Dx).foldl stepD ⟨p, -1, out⟩ = ⟨{ p with f9 := r.id }, -1, out ++ [⟨6, r.ch, { p with f9 := r.id }⟩]⟩ := rfl
      rw [e]
      refine hv.trans ?_
      rw [List.append_assoc]
      rfl
    · rw [if_neg h, if_neg h]
      obtain ⟨v, hv⟩ := flood_do q l p out
      exact ⟨v, hv⟩
section
theorem answer_own {c : Cf} (hc : CfOk c) (ch : Int) {p : Pk} (hp : PW p) (out : List Snt) {q : Po} (hq : q ∈ c.ps) (hch : q.ch = ch) (h0 : p.f0 = q.id) (h5 : p.f5 = q.ip) : goT (compF_ c ch) ⟨p, 2, out⟩ = ⟨p, -1, out⟩ := by
  have hx : execT (compF_ c ch) ⟨p, 2, out⟩ = ⟨p, -1, out⟩ := (tab2 c ch).hit (f := answerOwn q) (answers_mem.2 (.inr (.inl ⟨q, ⟨hq, hch⟩, rfl⟩))) rfl ((fits_own hp q).2 ⟨h0, h5⟩) fun g hg hgf => by
    rcases answers_mem.1 hg with ⟨r, hr, rfl⟩ | ⟨r, hr, rfl⟩ | ⟨s, hs, _, rfl⟩
    · exact .inr (by first | exact (by decide : (1 : Int) < 2) | exact (by decide : (1 : Int) < 4) | exact (by decide : (2 : Int) < 4) | exact (by decide : (3 : Int) < 4) | exact (by decide : (1 : Int) < 3) | exact (by decide : (2 : Int) < 3))
    · left
      rw [hc.id1 hr.1 hq (by have := ((fits_own hp r).1 hgf).1; omega)]
    · exact .inr (by first | exact (by decide : (1 : Int) < 2) | exact (by decide : (1 : Int) < 4) | exact (by decide : (2 : Int) < 4) | exact (by decide : (3 : Int) < 4) | exact (by decide : (1 : Int) < 3) | exact (by decide : (2 : Int) < 3))
  rw [goT_step (by dsimp only; omega) hx (.inl (by show (-1 : Int) < 0; decide)), goT_end]
theorem answer_port {c : Cf} (hc : CfOk c) (ch : Int) {p : Pk} (hp : PW p) (out : List Snt) {q : Po} (hq : q ∈ c.ps) (h0 : p.f0 = q.id) (h8 : p.f8 = q.sw) (h5 : p.f5 ≠ q.ip) {r : Po} (hr : r ∈ c.ps) (hrs : r.sw = q.sw) (hri : r.ip = p.f5) : goT (compF_ c ch) ⟨p, 2, out⟩ = goT (compF_ c ch) ⟨toldP p r.ip r.mac, 5, out⟩ := by
  have hf := (fits_tell hp r.sw r.ip r.mac).2 ⟨h8.trans hrs.symm, hri.symm⟩
  have hx : execT (compF_ c ch) ⟨p, 2, out⟩ = ⟨toldP p r.ip r.mac, 5, out⟩ := ((tab2 c ch).hit (f := tellF r.sw r.ip r.mac) (answers_mem.2 (.inl ⟨r, hr, rfl⟩)) rfl hf fun g hg hgf => by
    rcases answers_mem.1 hg with ⟨x, hx, rfl⟩ | ⟨x, hx, rfl⟩ | ⟨s, hs, _, rfl⟩
    · obtain ⟨e1, e2⟩ := (fits_tell hp x.sw x.ip x.mac).1 hgf
      left
      have : x.sw = r.sw := by omega
      rw [hc.ip1 hx hr (by omega) (by rw [this])]
    · obtain ⟨e1, e2⟩ := (fits_own hp x).1 hgf
      rw [hc.id1 hx.1 hq (by omega)] at e2
      exact absurd e2 h5
    · obtain ⟨e1, e2⟩ := (fits_tell hp s.id s.gate (60000 + s.id)).1 hgf
      have e3 : tenantAt c.ss r.sw = s.tenant := by
        rw [tenant_swAt, show r.sw = s.id by omega, hc.swIs hs]
      exact absurd (by omega) (hc.gate hr hs e3.symm)).trans (told_do ..)
  rw [goT_step (by dsimp only; omega) hx (.inr (by dsimp only; omega))]
theorem answer_gate {c : Cf} (hc : CfOk c) (ch : Int) {p : Pk} (hp : PW p) (out : List Snt) {q : Po} (hq : q ∈ c.ps) (h0 : p.f0 = q.id) (h8 : p.f8 = q.sw) {s : Sw} (hs : s ∈ c.ss) (hsi : s.id = q.sw) (hsg : s.gate ≠ 0) (h5 : p.f5 = s.gate) : goT (compF_ c ch) ⟨p, 2, out⟩ = goT (compF_ c ch) ⟨toldP p s.gate (60000 + s.id), 5, out⟩ := by
  have hf := (fits_tell hp s.id s.gate (60000 + s.id)).2 ⟨h8.trans hsi.symm, h5⟩
  have hno : ∀ r ∈ c.ps, r.sw = q.sw → r.ip ≠ p.f5 := fun r hr e1 e2 => by
    have e3 : tenantAt c.ss r.sw = s.tenant := by
      rw [tenant_swAt, show r.sw = s.id by omega, hc.swIs hs]
    exact hc.gate hr hs e3.symm (by omega)
  have hx : execT (compF_ c ch) ⟨p, 2, out⟩ = ⟨toldP p s.gate (60000 + s.id), 5, out⟩ := ((tab2 c ch).hit (f := tellF s.id s.gate (60000 + s.id)) (answers_mem.2 (.inr (.inr ⟨s, hs, hsg, rfl⟩))) rfl hf fun g hg hgf => by
    rcases answers_mem.1 hg with ⟨x, hx, rfl⟩ | ⟨x, hx, rfl⟩ | ⟨t, ht, _, rfl⟩
    · obtain ⟨e1, e2⟩ := (fits_tell hp x.sw x.ip x.mac).1 hgf
      exact absurd e2.symm (hno x hx (by omega))
    · obtain ⟨e1, e2⟩ := (fits_own hp x).1 hgf
      have e3 := hc.id1 hx.1 hq (by omega)
      exact absurd e2.symm (hno x hx.1 (by rw [e3]))
    · obtain ⟨e1, e2⟩ := (fits_tell hp t.id t.gate (60000 + t.id)).1 hgf
      left
      rw [hc.sid ht hs (by omega)]).trans (told_do ..)
  rw [goT_step (by dsimp only; omega) hx (.inr (by dsimp only; omega))]
theorem answer_none {c : Cf} (hc : CfOk c) (ch : Int) {p : Pk} (hp : PW p) (out : List Snt) {q : Po} (hq : q ∈ c.ps) (h0 : p.f0 = q.id) (h8 : p.f8 = q.sw) (h1 : ∀ r ∈ c.ps, r.sw = q.sw → r.ip ≠ p.f5) (h2 : ∀ s ∈ c.ss, s.id = q.sw → s.gate ≠ 0 → s.gate ≠ p.f5) : goT (compF_ c ch) ⟨p, 2, out⟩ = ⟨p, -1, out⟩ := by
  have hx : execT (compF_ c ch) ⟨p, 2, out⟩ = ⟨p, -1, out⟩ := (tab2 c ch).miss fun g hg => by
    rw [Bool.eq_false_iff]
    intro hgf
    rcases answers_mem.1 hg with ⟨x, hx, rfl⟩ | ⟨x, hx, rfl⟩ | ⟨t, ht, h3, rfl⟩
    · obtain ⟨e1, e2⟩ := (fits_tell hp x.sw x.ip x.mac).1 hgf
      exact h1 x hx (by omega) e2.symm
    · obtain ⟨e1, e2⟩ := (fits_own hp x).1 hgf
      have e3 := hc.id1 hx.1 hq (by omega)
      exact h1 x hx.1 (by rw [e3]) e2.symm
    · obtain ⟨e1, e2⟩ := (fits_tell hp t.id t.gate (60000 + t.id)).1 hgf
      exact h2 t ht (by omega) h3 e2.symm
  rw [goT_step (by dsimp only; omega) hx (.inl (by show (-1 : Int) < 0; decide)), goT_end]
theorem lead_all {c : Cf} (hc : CfOk c) (ch : Int) {p : Pk} (hp : PW p) (out : List Snt) {q : Po} (hq : q ∈ c.ps) (hch : q.ch = ch) (h0 : p.f0 = q.id) (h1 : p.f1 = 65535) : ∃ p', goT (compF_ c ch) ⟨p, 3, out⟩ = ⟨p', -1, out ++ c.ps.flatMap (floodS p q)⟩ := by
  obtain ⟨v, hv⟩ := flood_do q c.ps p out
  refine ⟨{ p with f9 := v }, ?_⟩
  have hx : execT (compF_ c ch) ⟨p, 3, out⟩ = ⟨{ p with f9 := v }, -1, out ++ c.ps.flatMap (floodS p q)⟩ := ((tab3 c ch).hit (f := leadAll c q) (leads_mem.2 (.inr (.inl ⟨q, ⟨hq, hch⟩, .inr rfl⟩))) rfl ((fits_all hp c q).2 ⟨h0, h1⟩) fun g hg hgf => by
    rcases leads_mem.1 hg with ⟨x, hx, rfl⟩ | ⟨x, hx, rfl | rfl⟩ | ⟨s, hs, _, h⟩
    · exact .inr (by first | exact (by decide : (1 : Int) < 2) | exact (by decide : (1 : Int) < 4) | exact (by decide : (2 : Int) < 4) | exact (by decide : (3 : Int) < 4) | exact (by decide : (1 : Int) < 3) | exact (by decide : (2 : Int) < 3))
    · have := ((fits_self hp x).1 hgf).2
      have := (hc.pg x hx.1).1.2.1
      omega
    · left
      rw [hc.id1 hx.1 hq (by have := ((fits_all hp c x).1 hgf).1; omega)]
    · have := (hc.sr s hs).1
      exfalso
      rcases h with rfl | rfl | ⟨x, hx, _, _, rfl⟩
      · have := ((fits_ttl hp s 0).1 hgf).2.1; omega
      · have := ((fits_ttl hp s 1).1 hgf).2.1; omega
      · have := ((fits_to hp s x _).1 hgf).2.1; omega).trans hv
  rw [goT_step (by dsimp only; omega) hx (.inl (by show (-1 : Int) < 0; decide)), goT_end]
theorem lead_self {c : Cf} (hc : CfOk c) (ch : Int) {p : Pk} (hp : PW p) (out : List Snt) {q : Po} (hq : q ∈ c.ps) (hch : q.ch = ch) (h0 : p.f0 = q.id) (h1 : p.f1 = q.mac) : goT (compF_ c ch) ⟨p, 3, out⟩ = ⟨p, -1, out⟩ := by
  have hqm := (hc.pg q hq).1.2.1
  have hx : execT (compF_ c ch) ⟨p, 3, out⟩ = ⟨p, -1, out⟩ := (tab3 c ch).hit (f := leadSelf q) (leads_mem.2 (.inr (.inl ⟨q, ⟨hq, hch⟩, .inl rfl⟩))) rfl ((fits_self hp q).2 ⟨h0, h1⟩) fun g hg hgf => by
    rcases leads_mem.1 hg with ⟨x, hx, rfl⟩ | ⟨x, hx, rfl | rfl⟩ | ⟨s, hs, _, h⟩
    · exact .inr (by first | exact (by decide : (1 : Int) < 2) | exact (by decide : (1 : Int) < 4) | exact (by decide : (2 : Int) < 4) | exact (by decide : (3 : Int) < 4) | exact (by decide : (1 : Int) < 3) | exact (by decide : (2 : Int) < 3))
    · left
      rw [hc.id1 hx.1 hq (by have := ((fits_self hp x).1 hgf).1; omega)]
    · have := ((fits_all hp c x).1 hgf).2
      omega
    · have := (hc.sr s hs).1
      exfalso
      rcases h with rfl | rfl | ⟨x, hx, _, _, rfl⟩
      · have := ((fits_ttl hp s 0).1 hgf).2.1; omega
      · have := ((fits_ttl hp s 1).1 hgf).2.1; omega
      · have := ((fits_to hp s x _).1 hgf).2.1; omega
  rw [goT_step (by dsimp only; omega) hx (.inl (by show (-1 : Int) < 0; decide)), goT_end]
theorem lead_port {c : Cf} (hc : CfOk c) (ch : Int) {p : Pk} (hp : PW p) (out : List Snt) {q : Po} (hq : q ∈ c.ps) (hch : q.ch = ch) (h0 : p.f0 = q.id) (h8 : p.f8 = q.sw) {r : Po} (hr : r ∈ c.ps) (hrs : r.sw = q.sw) (hrm : r.mac = p.f1) (hne : r.id ≠ q.id) : goT (compF_ c ch) ⟨p, 3, out⟩ = goT (compF_ c ch) ⟨{ p with f9 := r.id }, 4, out⟩ := by
  have hqm := (hc.pg r hr).1.2.1
  have hx : execT (compF_ c ch) ⟨p, 3, out⟩ = ⟨{ p with f9 := r.id }, 4, out⟩ := ((tab3 c ch).hit (f := leadPort r) (leads_mem.2 (.inl ⟨r, hr, rfl⟩)) rfl ((fits_port hp r).2 ⟨h8.trans hrs.symm, hrm.symm⟩) fun g hg hgf => by
    rcases leads_mem.1 hg with ⟨x, hx, rfl⟩ | ⟨x, hx, rfl | rfl⟩ | ⟨s, hs, _, h⟩
    · left
      obtain ⟨e1, e2⟩ := (fits_port hp x).1 hgf
      rw [hc.mac1 hx hr (by omega) (by omega)]
    · obtain ⟨e1, e2⟩ := (fits_self hp x).1 hgf
      have e3 := hc.id1 hx.1 hq (by omega)
      subst e3
      exact absurd (congrArg Po.id (hc.mac1 hr hx.1 hrs (by omega))) hne
    · have := ((fits_all hp c x).1 hgf).2
      omega
    · have := (hc.sr s hs).1
      exfalso
      rcases h with rfl | rfl | ⟨x, hx, _, _, rfl⟩
      · have := ((fits_ttl hp s 0).1 hgf).2.1; omega
      · have := ((fits_ttl hp s 1).1 hgf).2.1; omega
      · have := ((fits_to hp s x _).1 hgf).2.1; omega).trans (lead_do ..)
  rw [goT_step (by dsimp only; omega) hx (.inr (by dsimp only; omega))]
theorem lead_dead {c : Cf} (hc : CfOk c) (ch : Int) {p : Pk} (hp : PW p) (out : List Snt) {q : Po} (h8 : p.f8 = q.sw) {s : Sw} (hs : s ∈ c.ss) (hsi : s.id = q.sw) (hsg : s.gate ≠ 0) (h1 : p.f1 = 60000 + s.id) (h6 : p.f6 = 0 ∨ p.f6 = 1) : goT (compF_ c ch) ⟨p, 3, out⟩ = ⟨p, -1, out⟩ := by
  have hsr := (hc.sr s hs).1
  have hx : execT (compF_ c ch) ⟨p, 3, out⟩ = ⟨p, -1, out⟩ := (tab3 c ch).hit (f := leadTtl s p.f6) (leads_mem.2 (.inr (.inr ⟨s, hs, hsg, by rcases h6 with e | e <;> rw [e] <;> simp⟩))) rfl ((fits_ttl hp s p.f6).2 ⟨by omega, h1, rfl⟩) fun g hg hgf => by
    rcases leads_mem.1 hg with ⟨x, hx, rfl⟩ | ⟨x, hx, rfl | rfl⟩ | ⟨t, ht, _, h⟩
    · exact .inr (by first | exact (by decide : (1 : Int) < 2) | exact (by decide : (1 : Int) < 4) | exact (by decide : (2 : Int) < 4) | exact (by decide : (3 : Int) < 4) | exact (by decide : (1 : Int) < 3) | exact (by decide : (2 : Int) < 3))
    · exact .inr (by first | exact (by decide : (1 : Int) < 2) | exact (by decide : (1 : Int) < 4) | exact (by decide : (2 : Int) < 4) | exact (by decide : (3 : Int) < 4) | exact (by decide : (1 : Int) < 3) | exact (by decide : (2 : Int) < 3))
    · exact .inr (by first | exact (by decide : (1 : Int) < 2) | exact (by decide : (1 : Int) < 4) | exact (by decide : (2 : Int) < 4) | exact (by decide : (3 : Int) < 4) | exact (by decide : (1 : Int) < 3) | exact (by decide : (2 : Int) < 3))
    · rcases h with rfl | rfl | ⟨x, hx, _, _, rfl⟩
      · obtain ⟨e1, e2, e3⟩ := (fits_ttl hp t 0).1 hgf
        left
        rw [hc.sid ht hs (by omega), e3]
      · obtain ⟨e1, e2, e3⟩ := (fits_ttl hp t 1).1 hgf
        left
        rw [hc.sid ht hs (by omega), e3]
      · exact .inr (by first | exact (by decide : (1 : Int) < 2) | exact (by decide : (1 : Int) < 4) | exact (by decide : (2 : Int) < 4) | exact (by decide : (3 : Int) < 4) | exact (by decide : (1 : Int) < 3) | exact (by decide : (2 : Int) < 3))
  rw [goT_step (by dsimp only; omega) hx (.inl (by show (-1 : Int) < 0; decide)), goT_end]
theorem lead_to {c : Cf} (hc : CfOk c) (ch : Int) {p : Pk} (hp : PW p) (out : List Snt) {q : Po} (h8 : p.f8 = q.sw) {s : Sw} (hs : s ∈ c.ss) (hsi : s.id = q.sw) (hsg : s.gate ≠ 0) (h1 : p.f1 = 60000 + s.id) (h6 : p.f6 ≠ 0 ∧ p.f6 ≠ 1) {r : Po} (hr : r ∈ c.ps) (hri : r.ip = p.f5) (hrt : (swAt c.ss r.sw).tenant = s.tenant) (hrg : (swAt c.ss r.sw).gate ≠ 0) :
    goT (compF_ c ch) ⟨p, 3, out⟩ = goT (compF_ c ch) ⟨ledP p r (swAt c.ss r.sw), 4, out⟩ := by
  have hsr := (hc.sr s hs).1
  have hx : execT (compF_ c ch) ⟨p, 3, out⟩ = ⟨ledP p r (swAt c.ss r.sw), 4, out⟩ := ((tab3 c ch).hit (f := leadTo s r (swAt c.ss r.sw)) (leads_mem.2 (.inr (.inr ⟨s, hs, hsg, .inr (.inr ⟨r, hr, hrt, hrg, rfl⟩)⟩))) rfl ((fits_to hp s r _).2 ⟨by omega, h1, hri.symm⟩) fun g hg hgf => by
    rcases leads_mem.1 hg with ⟨x, hx, rfl⟩ | ⟨x, hx, rfl | rfl⟩ | ⟨t, ht, _, h⟩
    · exact .inr (by first | exact (by decide : (1 : Int) < 2) | exact (by decide : (1 : Int) < 4) | exact (by decide : (2 : Int) < 4) | exact (by decide : (3 : Int) < 4) | exact (by decide : (1 : Int) < 3) | exact (by decide : (2 : Int) < 3))
    · exact .inr (by first | exact (by decide : (1 : Int) < 2) | exact (by decide : (1 : Int) < 4) | exact (by decide : (2 : Int) < 4) | exact (by decide : (3 : Int) < 4) | exact (by decide : (1 : Int) < 3) | exact (by decide : (2 : Int) < 3))
    · exact .inr (by first | exact (by decide : (1 : Int) < 2) | exact (by decide : (1 : Int) < 4) | exact (by decide : (2 : Int) < 4) | exact (by decide : (3 : Int) < 4) | exact (by decide : (1 : Int) < 3) | exact (by decide : (2 : Int) < 3))
    · rcases h with rfl | rfl | ⟨x, hx, e4, _, rfl⟩
      · exact absurd ((fits_ttl hp t 0).1 hgf).2.2 h6.1
      · exact absurd ((fits_ttl hp t 1).1 hgf).2.2 h6.2
      · obtain ⟨e1, e2, e3⟩ := (fits_to hp t x _).1 hgf
        left
        have e5 := hc.sid ht hs (by omega)
        subst e5
        rw [hc.ip1 hx hr (by omega) (by rw [tenant_swAt, tenant_swAt, e4, hrt])]).trans (led_do ..)
  rw [goT_step (by dsimp only; omega) hx (.inr (by dsimp only; omega))]
theorem lead_none {c : Cf} (hc : CfOk c) (ch : Int) {p : Pk} (hp : PW p) (out : List Snt) {q : Po} (hq : q ∈ c.ps) (hch : q.ch = ch) (h0 : p.f0 = q.id) (h8 : p.f8 = q.sw) (h1 : p.f1 ≠ 65535) (h2 : p.f1 ≠ q.mac) (h3 : ∀ r ∈ c.ps, r.sw = q.sw → r.mac ≠ p.f1) (h4 : ∀ s ∈ c.ss, s.id = q.sw → s.gate ≠ 0 → p.f1 = 60000 + s.id → (p.f6 ≠ 0 ∧ p.f6 ≠ 1) ∧ ∀ r ∈ c.ps, (swAt c.ss r.sw).tenant = s.tenant → (swAt c.ss r.sw).gate ≠ 0 → r.ip ≠ p.f5) :
    goT (compF_ c ch) ⟨p, 3, out⟩ = ⟨p, -1, out⟩ := by
  have hx : execT (compF_ c ch) ⟨p, 3, out⟩ = ⟨p, -1, out⟩ := (tab3 c ch).miss fun g hg => by
    rw [Bool.eq_false_iff]
    intro hgf
    rcases leads_mem.1 hg with ⟨x, hx, rfl⟩ | ⟨x, hx, rfl | rfl⟩ | ⟨t, ht, hgt, h⟩
    · obtain ⟨e1, e2⟩ := (fits_port hp x).1 hgf
      exact h3 x hx (by omega) e2.symm
    · obtain ⟨e1, e2⟩ := (fits_self hp x).1 hgf
      have e3 := hc.id1 hx.1 hq (by omega)
      subst e3
      exact h2 e2
    · exact h1 ((fits_all hp c x).1 hgf).2
    · rcases h with rfl | rfl | ⟨x, hx, e4, e5, rfl⟩
      · obtain ⟨e1, e2, e3⟩ := (fits_ttl hp t 0).1 hgf
        exact (h4 t ht (by omega) hgt e2).1.1 e3
      · obtain ⟨e1, e2, e3⟩ := (fits_ttl hp t 1).1 hgf
        exact (h4 t ht (by omega) hgt e2).1.2 e3
      · obtain ⟨e1, e2, e3⟩ := (fits_to hp t x _).1 hgf
        exact (h4 t ht (by omega) hgt e2).2 x hx e4 e5 e3.symm
  rw [goT_step (by dsimp only; omega) hx (.inl (by show (-1 : Int) < 0; decide)), goT_end]
end
end Go.Proofs.YtmidechdlbcepaaGreat