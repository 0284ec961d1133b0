import Derived.Test.YtmidechdlbcepaaGreatPack27
import Derived.Test.YtmidechdlbcepaaGreatPack26
import Derived.Test.YtmidechdlbcepaaGreatPack25
import Derived.Test.YtmidechdlbcepaaGreatPack12
set_option linter.unusedSimpArgs false
set_option linter.unusedVariables false
namespace Go.Proofs.YtmidechdlbcepaaGreat
open Go.RowKit
set_option maxRecDepth 100000
structure Gl where
  net : Int
  to : Int
  is : Fr
def pkOf (f : Fr) (i n t : Int) : Pk := ⟨i, f.dst, f.src, f.kind, f.ipSrc, f.ipDst, f.ttl, f.port, n, t, f.body⟩
def frOfP (p : Pk) : Fr := ⟨p.f1, p.f2, p.f3, p.f4, p.f5, p.f6, p.f7, p.body⟩
def pkG (i : Int) (g : Gl) : Pk := pkOf g.is i g.net g.to
def tellG (p : Po) (f : Fr) (net mac : Int) : Gl := ⟨net, p.id, ⟨p.mac, mac, 2, f.ipDst, p.ip, 0, 0, ⟨#[]⟩⟩⟩
def askB (f : Fr) (s : Sw) (id : Int) (q : Po) : Bool := q.sw == s.id && (q.ip == f.ipDst && q.id != id)
def askG (c : Cf) (p : Po) (f : Fr) : List Gl :=
  if 0 < (swAt c.ss p.sw).gate ∧ (swAt c.ss p.sw).gate = f.ipDst then [tellG p f (swAt c.ss p.sw).id (60000 + (swAt c.ss p.sw).id)]
  else match c.ps.find? (askB f (swAt c.ss p.sw) p.id) with
    | some q => [tellG p f (swAt c.ss p.sw).id q.mac]
    | none => []
def ledFr (f : Fr) (q : Po) (t : Sw) : Fr := { f with dst := q.mac, src := 60000 + t.id, ttl := f.ttl - 1 }
def goalQ (c : Cf) (p : Po) (f : Fr) (q : Po) : List Gl :=
  if q.ch < 0 then [] else
  (if q.sw = (swAt c.ss p.sw).id ∧ q.id ≠ p.id ∧ (f.dst = 65535 ∨ f.dst = q.mac) then [⟨(swAt c.ss p.sw).id, q.id, f⟩] else []) ++
  (if 0 < (swAt c.ss p.sw).gate ∧ f.dst = 60000 + (swAt c.ss p.sw).id ∧ 1 < f.ttl ∧ (swAt c.ss q.sw).tenant = (swAt c.ss p.sw).tenant ∧ 0 < (swAt c.ss q.sw).gate ∧ q.ip = f.ipDst then [⟨(swAt c.ss q.sw).id, q.id, ledFr f q (swAt c.ss q.sw)⟩] else [])
def dataG (c : Cf) (p : Po) (f : Fr) : List Gl := if f.kind ≠ 3 ∨ allowB c (swAt c.ss p.sw).id true f.ipSrc f.ipDst f.port = false then [] else c.ps.flatMap (goalQ c p f)
def ledF (c : Cf) (ch id : Int) (f : Fr) : List Gl := match poAt c id with
  | none => []
  | some p => if p.ch ≠ ch ∨ f.src ≠ p.mac ∨ f.ipSrc ≠ p.ip then [] else if f.kind = 1 then askG c p f else dataG c p f
def comesG (c : Cf) (ch : Int) (g : Gl) : Bool := match poAt c g.to with
  | some q => q.ch == ch && (q.sw == g.net && (g.is.kind == 2 || allowB c g.net false g.is.ipSrc g.is.ipDst g.is.port))
  | none => false
def sentG (c : Cf) (ch i : Int) (flood : Bool) (g : Gl) : Option Snt := match poAt c g.to with
  | none => none
  | some q => if q.ch = ch ∧ flood = false then (if comesG c ch g = true then some ⟨5, g.to, pkG i g⟩ else none) else some ⟨6, q.ch, pkG i g⟩
def floodB (f : Fr) : Bool := decide (f.kind = 3) && decide (f.dst = 65535)
theorem comesP_G (c : Cf) (ch i : Int) (g : Gl) (hk : g.is.kind = 2 ∨ g.is.kind = 3) : comesP c ch (pkG i g) = comesG c ch g := by
  unfold comesP comesG
  show (match poAt c g.to with | some q => q.ch == ch && (q.sw == g.net && (g.is.kind == 2 || (g.is.kind == 3 && allowB c g.net false g.is.ipSrc g.is.ipDst g.is.port))) | none => false) = _
  cases poAt c g.to with
  | none => rfl
  | some q =>
    dsimp only
    rcases hk with h | h <;> simp [h]
theorem pw_pkOf {f : Fr} (h : FrMay f) {i n t : Int} (hi : 0 ≤ i ∧ i ≤ 65535) (hn : 0 ≤ n ∧ n ≤ 65535) (ht : 0 ≤ t ∧ t ≤ 65535) : PW (pkOf f i n t) :=
  ⟨decide_eq_true hi, decide_eq_true h.dst, decide_eq_true h.src, decide_eq_true (by have := h.kind; show 0 ≤ f.kind ∧ f.kind ≤ 65535; omega), decide_eq_true h.ipSrc, decide_eq_true h.ipDst, decide_eq_true (by have := h.ttl; show 0 ≤ f.ttl ∧ f.ttl ≤ 65535; omega), decide_eq_true h.port, decide_eq_true hn, decide_eq_true ht⟩
theorem flat_one {α β : Type} {f : α → List β} {r : α} : ∀ {l : List α}, l.Nodup → r ∈ l → (∀ x ∈ l, x ≠ r → f x = []) → l.flatMap f = f r
  | [], _, h, _ => by simp at h
  | x :: l, hn, h, hf => by
    obtain ⟨h1, h2⟩ := List.nodup_cons.1 hn
    rw [List.flatMap_cons]
    rcases List.mem_cons.1 h with rfl | h
    · have : l.flatMap f = [] := List.flatMap_eq_nil_iff.2 fun y hy => hf y (by simp [hy]) (by rintro rfl; exact h1 hy)
      rw [this, List.append_nil]
    · rw [hf x (by simp) (by rintro rfl; exact h1 h), List.nil_append]
      exact flat_one h2 h fun y hy => hf y (by simp [hy])
theorem CfOk.nodup {c : Cf} (h : CfOk c) : c.ps.Nodup := h.pd.imp fun h e => h.1 (by rw [e])
theorem flatMap_cg {α β : Type} {f g : α → List β} : ∀ {l : List α}, (∀ x ∈ l, f x = g x) → l.flatMap f = l.flatMap g
  | [], _ => rfl
  | x :: l, h => by rw [List.flatMap_cons, List.flatMap_cons, h x (by simp), flatMap_cg fun y hy => h y (by simp [hy])]
theorem flatMap_fm {α β γ : Type} (f : α → List β) (g : β → Option γ) : ∀ l : List α, (l.flatMap f).filterMap g = l.flatMap fun x => (f x).filterMap g
  | [] => rfl
  | x :: l => by rw [List.flatMap_cons, List.flatMap_cons, List.filterMap_append, flatMap_fm f g l]
theorem come_sent {c : Cf} (hc : CfOk c) (ch : Int) {f : Fr} (hf : FrMay f) {n t : Int} (hn : 0 ≤ n ∧ n ≤ 65535) (ht : 0 ≤ t ∧ t ≤ 65535) (hk : f.kind ≠ 1) : ranOf (compF_ c ch) (pkOf f 0 n t) = if comesG c ch ⟨n, t, f⟩ = true then [⟨5, t, pkOf f 0 n t⟩] else [] := by
  have hp := pw_pkOf hf (i := 0) (by omega) hn ht
  rw [ranOf_go, enter_tunnel hc ch hp [] rfl]
  have hb : comesP c ch (pkOf f 0 n t) = comesG c ch ⟨n, t, f⟩ := comesP_G c ch 0 ⟨n, t, f⟩ (by have := hf.kind; show f.kind = 2 ∨ f.kind = 3; omega)
  show [] ++ comeS c ch (pkOf f 0 n t) = _
  rw [List.nil_append, comeS, hb]
  rfl
section
theorem pw_enter {c : Cf} (hc : CfOk c) {f : Fr} (hf : FrMay f) {q : Po} (hq : q ∈ c.ps) : PW (pkOf f q.id q.sw 0) := by
  have h1 := (hc.pg q hq).1.1
  have h2 := hc.swIn hq
  have h3 := (hc.sr _ h2.1).1
  exact pw_pkOf hf (by omega) (by omega) (by omega)
theorem sentG_at {c : Cf} {ch i : Int} {b : Bool} {g : Gl} {q : Po} (h : poAt c g.to = some q) : sentG c ch i b g = if q.ch = ch ∧ b = false then (if comesG c ch g = true then some ⟨5, g.to, pkG i g⟩ else none) else some ⟨6, q.ch, pkG i g⟩ := by
  unfold sentG
  rw [h]
theorem fm_one {α β : Type} (f : α → Option β) (x : α) : [x].filterMap f = (f x).toList := by
  rw [List.filterMap_cons, List.filterMap_nil]
  cases f x <;> rfl
theorem leave_goal {c : Cf} (hc : CfOk c) {ch : Int} {f : Fr} (hf : FrMay f) {q : Po} (hq : q ∈ c.ps) (hk : f.kind = 2 ∨ f.kind = 3) {n i : Int} (hn : 0 ≤ n ∧ n ≤ 65535) (hi : 0 ≤ i ∧ i ≤ 65535) (h0 : 0 ≤ ch) : leaveS c ch (pkOf f i n q.id) = ((if q.ch < 0 then [] else [(⟨n, q.id, f⟩ : Gl)]) : List Gl).filterMap (sentG c ch i false) := by
  unfold leaveS
  rw [show (pkOf f i n q.id).f9 = q.id from rfl, poAt_is hc hq]
  dsimp only
  have hb : comesP c ch (pkOf f i n q.id) = comesG c ch ⟨n, q.id, f⟩ := comesP_G c ch i ⟨n, q.id, f⟩ hk
  by_cases h1 : q.ch = ch
  · rw [if_pos h1, if_neg (by omega), comeS, hb, fm_one, sentG_at (poAt_is hc hq), if_pos (show q.ch = ch ∧ false = false from ⟨h1, rfl⟩)]
    by_cases h2 : comesG c ch ⟨n, q.id, f⟩ = true
    · rw [if_pos h2, if_pos h2]
      rfl
    · rw [if_neg h2, if_neg h2]
      rfl
  · rw [if_neg h1]
    by_cases h2 : 0 ≤ q.ch
    · rw [if_pos h2, if_neg (by omega), fm_one, sentG_at (poAt_is hc hq), if_neg (fun h => h1 h.1)]
      rfl
    · rw [if_neg h2, if_pos (by omega)]
      rfl
theorem ask_sent {c : Cf} (hc : CfOk c) {ch : Int} {f : Fr} (hf : FrMay f) {q : Po} (hq : q ∈ c.ps) (hch : q.ch = ch) (hm : f.src = q.mac) (hi : f.ipSrc = q.ip) (hk : f.kind = 1) (ht : f.ttl = 0) (hpt : f.port = 0) (hb : f.body = ⟨#[]⟩) (h0 : 0 ≤ ch) :
    (goT (compF_ c ch) ⟨pkOf f q.id q.sw 0, 2, []⟩).out = (askG c q f).filterMap (sentG c ch q.id false) := by
  have hp := pw_enter hc hf hq
  obtain ⟨hs, hsi⟩ := hc.swIn hq
  have hqr := (hc.pg q hq).1
  unfold PoR at hqr
  have hsr := hc.sr _ hs
  unfold SwR at hsr
  have key : ∀ mac, 0 ≤ mac → mac ≤ 65535 → (goT (compF_ c ch) ⟨toldP (pkOf f q.id q.sw 0) f.ipDst mac, 5, []⟩).out = [tellG q f (swAt c.ss q.sw).id mac].filterMap (sentG c ch q.id false) := fun mac h1 h2 => by
    have e : toldP (pkOf f q.id q.sw 0) f.ipDst mac = pkG q.id (tellG q f (swAt c.ss q.sw).id mac) := by
      unfold toldP pkOf pkG tellG pkOf
      rw [hsi]
      dsimp only
      rw [hm, hi, ht, hpt, hb]
    have hp2 : PW (toldP (pkOf f q.id q.sw 0) f.ipDst mac) := ⟨hp.w0, hp.w2, decide_eq_true ⟨h1, h2⟩, rfl, hp.w5, hp.w4, hp.w6, hp.w7, hp.w8, hp.w0⟩
    rw [come_go hc ch hp2, List.nil_append, comeS, e, comesP_G _ _ _ _ (.inl rfl)]
    have hpo : poAt c (tellG q f (swAt c.ss q.sw).id mac).to = some q := poAt_is hc hq
    rw [fm_one, sentG_at hpo, if_pos (show q.ch = ch ∧ false = false from ⟨hch, rfl⟩)]
    by_cases h2 : comesG c ch (tellG q f (swAt c.ss q.sw).id mac) = true
    · rw [if_pos h2, if_pos h2]
      rfl
    · rw [if_neg h2, if_neg h2]
      rfl
  unfold askG
  generalize hsd : swAt c.ss q.sw = s at *
  have hst : tenantAt c.ss q.sw = s.tenant := by rw [tenant_swAt, hsd]
  by_cases h5 : f.ipDst = q.ip
  · rw [answer_own hc ch hp [] hq hch rfl h5, if_neg (fun h => hc.gate hq hs hst.symm (by omega))]
    rw [List.find?_eq_none.2 fun r hr h => ?_]
    · rfl
    · simp only [askB, Bool.and_eq_true, beq_iff_eq, bne_iff_ne] at h
      exact h.2.2 (congrArg Po.id (hc.ip1 hr hq (by omega) (by rw [h.1, hsi])))
  by_cases hg : 0 < s.gate ∧ s.gate = f.ipDst
  · rw [if_pos hg, answer_gate hc ch hp [] hq rfl rfl hs hsi (by omega) hg.2.symm, hg.2]
    exact key _ (by omega) (by omega)
  rw [if_neg hg]
  cases hfd : c.ps.find? (askB f s q.id) with
  | some r =>
    have h1 := List.mem_of_find?_eq_some hfd
    have h2 := List.find?_some hfd
    simp only [askB, Bool.and_eq_true, beq_iff_eq, bne_iff_ne] at h2
    have hrr := (hc.pg r h1).1
    unfold PoR at hrr
    rw [answer_port hc ch hp [] hq rfl rfl h5 h1 (by omega) h2.2.1, h2.2.1]
    exact key _ (by omega) (by omega)
  | none =>
    have h1 := List.find?_eq_none.1 hfd
    rw [answer_none hc ch hp [] hq rfl rfl (fun r hr e e2 => ?_) (fun t ht e e2 e3 => ?_)]
    · rfl
    · refine h1 r hr ?_
      simp only [askB, Bool.and_eq_true, beq_iff_eq, bne_iff_ne]
      refine ⟨by omega, e2, fun e4 => h5 ?_⟩
      rw [← hc.id1 hr hq e4]
      exact e2.symm
    · have := hc.sid ht hs (by omega)
      subst this
      have := (hc.sr t ht).2.2
      exact hg ⟨by omega, e3⟩
theorem data_sent {c : Cf} (hc : CfOk c) {ch : Int} {f : Fr} (hf : FrMay f) {q : Po} (hq : q ∈ c.ps) (hch : q.ch = ch) (hk : f.kind = 3) (h0 : 0 ≤ ch) :
    (goT (compF_ c ch) ⟨pkOf f q.id q.sw 0, 3, []⟩).out = (c.ps.flatMap (goalQ c q f)).filterMap (sentG c ch q.id (floodB f)) := by
  have hp := pw_enter hc hf hq
  obtain ⟨hs, hsi⟩ := hc.swIn hq
  have hqr := (hc.pg q hq).1
  unfold PoR at hqr
  have hsr := hc.sr _ hs
  unfold SwR at hsr
  have hkind := hf.kind
  have hd : floodB f = decide (f.dst = 65535) := by unfold floodB; rw [hk]; rfl
  unfold goalQ
  have hst : tenantAt c.ss q.sw = (swAt c.ss q.sw).tenant := tenant_swAt _ _
  generalize swAt c.ss q.sw = s at *
  have none_of : ∀ b, (∀ r ∈ c.ps, ¬ (r.sw = s.id ∧ r.id ≠ q.id ∧ (f.dst = 65535 ∨ f.dst = r.mac)) ∧ ¬ (0 < s.gate ∧ f.dst = 60000 + s.id ∧ 1 < f.ttl ∧ (swAt c.ss r.sw).tenant = s.tenant ∧ 0 < (swAt c.ss r.sw).gate ∧ r.ip = f.ipDst)) →
      ((c.ps.flatMap fun r => if r.ch < 0 then [] else (if r.sw = s.id ∧ r.id ≠ q.id ∧ (f.dst = 65535 ∨ f.dst = r.mac) then [(⟨s.id, r.id, f⟩ : Gl)] else []) ++ (if 0 < s.gate ∧ f.dst = 60000 + s.id ∧ 1 < f.ttl ∧ (swAt c.ss r.sw).tenant = s.tenant ∧ 0 < (swAt c.ss r.sw).gate ∧ r.ip = f.ipDst then [⟨(swAt c.ss r.sw).id, r.id, ledFr f r (swAt c.ss r.sw)⟩] else [])).filterMap (sentG c ch q.id b)) = [] := fun b h => by
    rw [List.flatMap_eq_nil_iff.2 fun r hr => ?_]
    · rfl
    · obtain ⟨h1, h2⟩ := h r hr
      rw [if_neg h1, if_neg h2]
      split <;> rfl
  by_cases ha : f.dst = 65535
  · have hfl : floodB f = true := by rw [hd]; exact decide_eq_true ha
    obtain ⟨p', hp'⟩ := lead_all hc ch hp [] hq hch rfl ha
    rw [hp', List.nil_append, flatMap_fm]
    refine flatMap_cg fun r hr => ?_
    have n2 : ¬ (0 < s.gate ∧ f.dst = 60000 + s.id ∧ 1 < f.ttl ∧ (swAt c.ss r.sw).tenant = s.tenant ∧ 0 < (swAt c.ss r.sw).gate ∧ r.ip = f.ipDst) := fun h => by
      have := hsr.1
      omega
    rw [if_neg n2, List.append_nil]
    unfold floodS
    by_cases h1 : r.sw = q.sw ∧ r.id ≠ q.id ∧ 0 ≤ r.ch
    · rw [if_pos h1, if_neg (by omega), if_pos ⟨by omega, h1.2.1, .inl ha⟩]
      rw [fm_one, sentG_at (poAt_is hc hr), if_neg (by rw [hfl]; simp)]
      show [_] = [_]
      unfold pkG pkOf
      rw [hsi]
    · rw [if_neg h1]
      by_cases h2 : r.ch < 0
      · rw [if_pos h2]; rfl
      · rw [if_neg h2, if_neg (fun h => h1 ⟨by omega, h.2.1, by omega⟩)]; rfl
  have hfl : floodB f = false := by rw [hd]; exact decide_eq_false ha
  rw [hfl]
  by_cases hb : f.dst = q.mac
  · rw [lead_self hc ch hp [] hq hch rfl hb, none_of false fun r hr => ⟨fun h => ?_, fun h => ?_⟩]
    · refine h.2.1 (congrArg Po.id (hc.mac1 hr hq (by omega) ?_))
      rcases h.2.2 with h | h <;> omega
    · have := hqr.2.1
      have := hsr.1
      omega
  by_cases hcp : ∃ r ∈ c.ps, r.sw = q.sw ∧ r.mac = f.dst
  · obtain ⟨r, hr, hrs, hrm⟩ := hcp
    have hrr := (hc.pg r hr).1
    unfold PoR at hrr
    have hne : r.id ≠ q.id := fun e => hb (by rw [← hrm, hc.id1 hr hq e])
    have hp2 : PW (pkOf f q.id q.sw r.id) := ⟨hp.w0, hp.w1, hp.w2, hp.w3, hp.w4, hp.w5, hp.w6, hp.w7, hp.w8, decide_eq_true (by show 0 ≤ r.id ∧ r.id ≤ 65535; omega)⟩
    rw [lead_port hc ch hp [] hq hch rfl rfl hr hrs hrm hne]
    have e : ({ pkOf f q.id q.sw 0 with f9 := r.id } : Pk) = pkOf f q.id q.sw r.id := rfl
    rw [e, leave_go hc ch hp2, List.nil_append]
    have n2 : ∀ x : Po, ¬ (0 < s.gate ∧ f.dst = 60000 + s.id ∧ 1 < f.ttl ∧ (swAt c.ss x.sw).tenant = s.tenant ∧ 0 < (swAt c.ss x.sw).gate ∧ x.ip = f.ipDst) := fun x h => by omega
    rw [flat_one hc.nodup hr fun x hx hxr => ?_]
    · rw [if_pos (⟨by omega, hne, .inr hrm.symm⟩ : r.sw = s.id ∧ r.id ≠ q.id ∧ (f.dst = 65535 ∨ f.dst = r.mac)), if_neg (n2 r), List.append_nil]
      have := leave_goal hc hf hr (ch := ch) (.inr hk) (n := q.sw) (i := q.id) (by have := hsr.1; omega) (by omega) h0
      rw [hsi]
      exact this
    · have n1 : ¬ (x.sw = s.id ∧ x.id ≠ q.id ∧ (f.dst = 65535 ∨ f.dst = x.mac)) := fun h => by
        refine hxr (hc.mac1 hx hr (by omega) ?_)
        rcases h.2.2 with h | h <;> omega
      rw [if_neg n1, if_neg (n2 x)]
      split <;> rfl
  have hno : ∀ r ∈ c.ps, r.sw = q.sw → r.mac ≠ f.dst := fun r hr e e2 => hcp ⟨r, hr, e, e2⟩
  have n1 : ∀ r ∈ c.ps, ¬ (r.sw = s.id ∧ r.id ≠ q.id ∧ (f.dst = 65535 ∨ f.dst = r.mac)) := fun r hr h => by
    rcases h.2.2 with h2 | h2
    · exact ha h2
    · exact hno r hr (by omega) h2.symm
  by_cases hg : s.gate ≠ 0 ∧ f.dst = 60000 + s.id
  · by_cases ht : f.ttl = 0 ∨ f.ttl = 1
    · rw [lead_dead hc ch hp [] rfl hs hsi hg.1 hg.2 ht, none_of false fun r hr => ⟨n1 r hr, fun h => by omega⟩]
    by_cases hr : ∃ r ∈ c.ps, r.ip = f.ipDst ∧ (swAt c.ss r.sw).tenant = s.tenant ∧ (swAt c.ss r.sw).gate ≠ 0
    · obtain ⟨r, hr, hri, hrt, hrg⟩ := hr
      have hrr := (hc.pg r hr).1
      unfold PoR at hrr
      obtain ⟨hts, hti⟩ := hc.swIn hr
      have htr := hc.sr _ hts
      unfold SwR at htr
      have httl := hf.ttl
      rw [lead_to hc ch hp [] rfl hs hsi hg.1 hg.2 (show f.ttl ≠ 0 ∧ f.ttl ≠ 1 by omega) hr hri hrt hrg]
      have hf2 : FrMay (ledFr f r (swAt c.ss r.sw)) := ⟨by show 0 ≤ r.mac ∧ r.mac ≤ 65535; omega, by show 0 ≤ 60000 + (swAt c.ss r.sw).id ∧ 60000 + (swAt c.ss r.sw).id ≤ 65535; omega, hf.kind, hf.ipSrc, hf.ipDst, by show 0 ≤ f.ttl - 1 ∧ f.ttl - 1 ≤ 255; omega, hf.port, hf.body⟩
      have hp2 := pw_pkOf hf2 (i := q.id) (n := (swAt c.ss r.sw).id) (t := r.id) (by omega) (by omega) (by omega)
      have e : ledP (pkOf f q.id q.sw 0) r (swAt c.ss r.sw) = pkOf (ledFr f r (swAt c.ss r.sw)) q.id (swAt c.ss r.sw).id r.id := by
        unfold ledP pkOf ledFr
        dsimp only
        rw [if_neg (by omega)]
      rw [e, leave_go hc ch hp2, List.nil_append]
      rw [flat_one hc.nodup hr fun x hx hxr => ?_]
      · rw [if_neg (n1 r hr), if_pos (show 0 < s.gate ∧ f.dst = 60000 + s.id ∧ 1 < f.ttl ∧ (swAt c.ss r.sw).tenant = s.tenant ∧ 0 < (swAt c.ss r.sw).gate ∧ r.ip = f.ipDst from ⟨by omega, hg.2, by omega, hrt, by omega, hri⟩), List.nil_append]
        exact leave_goal hc hf2 hr (ch := ch) (.inr hk) (by omega) (by omega) h0
      · have n2 : ¬ (0 < s.gate ∧ f.dst = 60000 + s.id ∧ 1 < f.ttl ∧ (swAt c.ss x.sw).tenant = s.tenant ∧ 0 < (swAt c.ss x.sw).gate ∧ x.ip = f.ipDst) := fun h => hxr (hc.ip1 hx hr (by omega) (by rw [tenant_swAt, tenant_swAt, h.2.2.2.1, hrt]))
        rw [if_neg (n1 x hx), if_neg n2]
        split <;> rfl
    · rw [lead_none hc ch hp [] hq hch rfl rfl ha hb hno (fun t ht' e1 e2 e3 => ?_), none_of false fun r hr' => ⟨n1 r hr', fun h => hr ⟨r, hr', h.2.2.2.2.2, h.2.2.2.1, by omega⟩⟩]
      have := hc.sid ht' hs (by omega)
      subst this
      exact ⟨show f.ttl ≠ 0 ∧ f.ttl ≠ 1 by omega, fun r hr' h1 h2 h3 => hr ⟨r, hr', h3, h1, h2⟩⟩
  · rw [lead_none hc ch hp [] hq hch rfl rfl ha hb hno (fun t ht e1 e2 e3 => ?_), none_of false fun r hr => ⟨n1 r hr, fun h => hg ⟨by omega, h.2.1⟩⟩]
    have := hc.sid ht hs (by omega)
    subst this
    exact absurd ⟨e2, e3⟩ hg
end
theorem body_none : ∀ {b : ByteArray}, b.size = 0 → b = ⟨#[]⟩
  | ⟨_⟩, h => congrArg ByteArray.mk (Array.eq_empty_of_size_eq_zero h)
theorem led_sent {c : Cf} (hc : CfOk c) {ch : Int} (h0 : 0 ≤ ch) {f : Fr} (hff : frameFault f = 0) {id : Int} (hid : 1 ≤ id ∧ id ≤ 65535) : ranOf (compF_ c ch) (pkOf f id 0 0) = (ledF c ch id f).filterMap (sentG c ch id (floodB f)) := by
  have hf := frMay hff
  have hkind := hf.kind
  have hp := pw_pkOf hf (i := id) (n := 0) (t := 0) (by omega) (by omega) (by omega)
  rw [ranOf_go]
  have h0' : (pkOf f id 0 0).f0 ≠ 0 := by show id ≠ 0; omega
  unfold ledF
  cases hpo : poAt c id with
  | none =>
    dsimp only
    rw [enter_none ch hp [] h0' fun q hq _ e => absurd e.symm (poAt_none hpo hq)]
    rfl
  | some q =>
    obtain ⟨hq, hqi⟩ := poAt_mem hpo
    dsimp only
    subst hqi
    by_cases hbad : q.ch ≠ ch ∨ f.src ≠ q.mac ∨ f.ipSrc ≠ q.ip
    · rw [if_pos hbad, enter_none ch hp [] h0' fun r hr e e2 e3 e4 => ?_]
      · rfl
      · have := hc.id1 hr hq e2.symm
        subst this
        exfalso
        rcases hbad with h | h | h
        · exact h e
        · exact h e3
        · exact h e4
    rw [if_neg hbad]
    have hch : q.ch = ch := Classical.byContradiction fun h => hbad (.inl h)
    have hm : f.src = q.mac := Classical.byContradiction fun h => hbad (.inr (.inl h))
    have hi : f.ipSrc = q.ip := Classical.byContradiction fun h => hbad (.inr (.inr h))
    by_cases hk1 : f.kind = 1
    · rw [if_pos hk1, enter_ask hc ch hp [] hq hch rfl hm hi hk1]
      have hz : f.ttl = 0 ∧ f.port = 0 ∧ f.body = ⟨#[]⟩ := by
        have h := hff
        unfold frameFault at h
        rw [if_neg (by omega)] at h
        split at h
        · omega
        · split at h
          · omega
          · split at h
            · omega
            · rename_i h1
              have h2 : ¬ (f.ttl ≠ 0 ∨ f.port ≠ 0 ∨ f.body.size ≠ 0) := fun h => h1 ⟨by omega, h⟩
              refine ⟨by omega, by omega, ?_⟩
              have h3 : f.body.size = 0 := by omega
              exact body_none h3
      have hfl : floodB f = false := by unfold floodB; rw [hk1]; rfl
      rw [hfl]
      exact ask_sent hc hf hq hch hm hi hk1 hz.1 hz.2.1 hz.2.2 h0
    rw [if_neg hk1]
    unfold dataG
    by_cases hk3 : f.kind = 3
    · rw [enter_data hc ch hp [] hq hch rfl hm hi hk3]
      have hp2 := pw_enter hc hf hq
      have hx := rules_exec hc (tab1 c ch) hp2 []
      have hsi := (hc.swIn hq).2
      have e : ({ pkOf f q.id 0 0 with f8 := q.sw } : Pk) = pkOf f q.id q.sw 0 := rfl
      rw [e, hsi]
      have ea : allowB c (pkOf f q.id q.sw 0).f8 true (pkOf f q.id q.sw 0).f4 (pkOf f q.id q.sw 0).f5 (pkOf f q.id q.sw 0).f7 = allowB c q.sw true f.ipSrc f.ipDst f.port := rfl
      rw [ea] at hx
      cases ha : allowB c q.sw true f.ipSrc f.ipDst f.port with
      | false =>
        rw [ha, if_neg (by decide)] at hx
        rw [goT_step (by dsimp only; omega) hx (.inl (by show (-1 : Int) < 0; decide)), goT_end, if_pos (.inr rfl)]
        rfl
      | true =>
        rw [ha, if_pos rfl] at hx
        rw [goT_step (by dsimp only; omega) hx (.inr (by dsimp only; omega)), if_neg (by simp [hk3])]
        exact data_sent hc hf hq hch hk3 h0
    · rw [if_pos (.inl hk3), enter_none ch hp [] h0' fun _ _ _ _ _ _ => ⟨hk3, hk1⟩]
      rfl
end Go.Proofs.YtmidechdlbcepaaGreat
namespace Go.Proofs.YtmidechdlbcepaaGreat
open Go.RowKit
structure Ar where
  port : Int
  is : Fr
def Ar.prio (x : Ar) : Int := -x.port
def encAr (x : Ar) : List FV := [.int .i64 x.port] ++ encFr x.is
theorem encAr_len (x : Ar) : (encAr x).length = 9 := rfl
def ArR (x : Ar) : Prop := 0 ≤ x.port ∧ x.port ≤ 65535
end Go.Proofs.YtmidechdlbcepaaGreat
namespace Go.Proofs.YtmidechdlbcepaaGreat.AS
open Go.RowKit
def geA (x y : Ar) : Bool := decide (y.prio ≤ x.prio)
def sortA (l : List Ar) : List Ar := l.mergeSort geA
structure StabA (R l : List Ar) : Prop where
  ord : R.Pairwise fun x y => y.prio ≤ x.prio
  flt : ∀ p : Int, R.filter (fun x => x.prio == p) = l.filter fun x => x.prio == p
theorem StabA.mem {R l : List Ar} (h : StabA R l) {x : Ar} : x ∈ R ↔ x ∈ l := by
  have e := h.flt x.prio
  have h1 : x ∈ R.filter (fun y => y.prio == x.prio) ↔ x ∈ R := by simp
  have h2 : x ∈ l.filter (fun y => y.prio == x.prio) ↔ x ∈ l := by simp
  rw [← h1, e, h2]
theorem ord_uniq : ∀ {R S : List Ar}, R.Pairwise (fun x y => y.prio ≤ x.prio) → S.Pairwise (fun x y => y.prio ≤ x.prio) → (∀ p : Int, R.filter (fun x => x.prio == p) = S.filter fun x => x.prio == p) → R = S
  | [], [], _, _, _ => rfl
  | [], y :: S, _, _, h => by
    have := h y.prio
    simp at this
  | x :: R, [], _, _, h => by
    have := h x.prio
    simp at this
  | x :: R, y :: S, h1, h2, h => by
    obtain ⟨a1, a2⟩ := List.pairwise_cons.1 h1
    obtain ⟨b1, b2⟩ := List.pairwise_cons.1 h2
    have hxS : x ∈ y :: S := by
      have : x ∈ (y :: S).filter fun z => z.prio == x.prio := by rw [← h x.prio]; simp
      exact (List.mem_filter.1 this).1
    have hyR : y ∈ x :: R := by
      have : y ∈ (x :: R).filter fun z => z.prio == y.prio := by rw [h y.prio]; simp
      exact (List.mem_filter.1 this).1
    have hp : x.prio = y.prio := by
      rcases List.mem_cons.1 hxS with rfl | hxS
      · rfl
      · rcases List.mem_cons.1 hyR with rfl | hyR
        · rfl
        · have := b1 x hxS
          have := a1 y hyR
          omega
    have e := h x.prio
    rw [List.filter_cons, List.filter_cons, if_pos (by simp), if_pos (by simp [hp])] at e
    obtain ⟨rfl, e2⟩ := List.cons.inj e
    rw [ord_uniq a2 b2 fun p => ?_]
    have e3 := h p
    rw [List.filter_cons, List.filter_cons] at e3
    split at e3
    · exact (List.cons.inj e3).2
    · exact e3
theorem sortA_stab (l : List Ar) : StabA (sortA l) l := by
  have hperm := List.mergeSort_perm l geA
  have hs := List.pairwise_mergeSort (le := geA) (fun a b c h1 h2 => by simp only [geA, decide_eq_true_eq] at *; omega) (fun a b => by simp only [geA, Bool.or_eq_true, decide_eq_true_eq]; omega) l
  refine ⟨hs.imp fun h => by simpa [geA] using h, fun p => ?_⟩
  have h1 : (l.filter fun x => x.prio == p).Pairwise fun a b => geA a b = true := by
    rw [List.pairwise_iff_forall_sublist]
    intro a b hab
    have ha := List.mem_filter.1 (hab.mem (show a ∈ [a, b] by simp))
    have hb := List.mem_filter.1 (hab.mem (show b ∈ [a, b] by simp))
    simp only [beq_iff_eq] at ha hb
    simp only [geA, decide_eq_true_eq]
    omega
  have h2 := List.sublist_mergeSort (le := geA) (fun a b c h1 h2 => by simp only [geA, decide_eq_true_eq] at *; omega) (fun a b => by simp only [geA, Bool.or_eq_true, decide_eq_true_eq]; omega) h1 List.filter_sublist
  have h3 := h2.filter fun x => x.prio == p
  rw [List.filter_filter] at h3
  simp only [Bool.and_self] at h3
  exact (h3.eq_of_length (by
    have := (hperm.filter fun x => x.prio == p).length_eq
    exact this.symm)).symm
theorem StabA.is {R l : List Ar} (h : StabA R l) : R = sortA l := ord_uniq h.ord (sortA_stab l).ord fun p => (h.flt p).trans ((sortA_stab l).flt p).symm
theorem sortA_split {A1 A2 B1 B2 : List Ar} (h1 : ∀ x ∈ A1, ∀ y ∈ B2, y.prio ≤ x.prio) (h2 : ∀ x ∈ A1, ∀ y ∈ A2, y.prio ≤ x.prio) (h3 : ∀ x ∈ B1, ∀ y ∈ A2, y.prio < x.prio) (h4 : ∀ x ∈ B1, ∀ y ∈ B2, y.prio ≤ x.prio) :
    sortA (A1 ++ B1) ++ sortA (A2 ++ B2) = sortA (A1 ++ A2 ++ (B1 ++ B2)) := by
  have s1 := sortA_stab (A1 ++ B1)
  have s2 := sortA_stab (A2 ++ B2)
  refine StabA.is ⟨List.pairwise_append.2 ⟨s1.ord, s2.ord, fun x hx y hy => ?_⟩, fun p => ?_⟩
  · rw [s1.mem, List.mem_append] at hx
    rw [s2.mem, List.mem_append] at hy
    rcases hx with hx | hx <;> rcases hy with hy | hy
    · exact h2 x hx y hy
    · exact h1 x hx y hy
    · exact Int.le_of_lt (h3 x hx y hy)
    · exact h4 x hx y hy
  · rw [List.filter_append, s1.flt, s2.flt]
    simp only [List.filter_append]
    by_cases hA : A2.filter (fun x => x.prio == p) = []
    · rw [hA]
      simp
    · have hB : B1.filter (fun x => x.prio == p) = [] := by
        obtain ⟨y, hy⟩ := List.exists_mem_of_ne_nil _ hA
        obtain ⟨y1, y2⟩ := List.mem_filter.1 hy
        refine List.filter_eq_nil_iff.2 fun x hx hxp => ?_
        have := h3 x hx y y1
        simp only [beq_iff_eq] at hxp y2
        omega
      rw [hB]
      simp
end Go.Proofs.YtmidechdlbcepaaGreat.AS
namespace Go.Proofs.YtmidechdlbcepaaGreat
open Go.RowKit
set_option maxRecDepth 100000
theorem StabA.filter {R l : List Ac} (h : StabA R l) (p : Ac → Bool) : StabA (R.filter p) (l.filter p) := by
  refine ⟨h.ord.filter p, fun n => ?_⟩
  have e := congrArg (List.filter p) (h.flt n)
  rw [List.filter_filter, List.filter_filter] at e ⊢
  have sw : ∀ l : List Ac, l.filter (fun a => (a.prio == n) && p a) = l.filter fun a => p a && (a.prio == n) := fun l => by
    congr 1
    funext a
    rw [Bool.and_comm]
  rw [sw, sw]
  exact e
end Go.Proofs.YtmidechdlbcepaaGreat
namespace Go.Proofs.YtmidechdlbcepaaGreat
open Go.ChangeShapes Go.WideShapes Go.ChangeAt Go.RowKit Go.Deep
set_option maxRecDepth 100000
def Mx.Ok (m : Mx) : Prop := I64 m.field ∧ I64 m.mask ∧ I64 m.value
def Dx.Ok (d : Dx) : Prop := I64 d.kind ∧ I64 d.a ∧ I64 d.n
def Fl.Ok (f : Fl) : Prop := I64 f.table ∧ I64 f.prio ∧ (∀ x ∈ f.ms, x.Ok) ∧ (∀ x ∈ f.ds, x.Ok) ∧ f.ms.length * 24 ≤ reachBytes ∧ f.ds.length * 24 ≤ reachBytes
section
variable {H : Type} {enc : TypeId × Value → H} {P : Program} {w : World} {base : Nat} {spare : Nat → Bool} {held : Bool} {Cl : TypeId → DataW H → Prop}
end
end Go.Proofs.YtmidechdlbcepaaGreat