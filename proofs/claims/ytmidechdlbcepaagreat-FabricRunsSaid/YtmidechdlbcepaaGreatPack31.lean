import Derived.Test.YtmidechdlbcepaaGreatPack28
import Derived.Test.YtmidechdlbcepaaGreatPack29
import Derived.Test.YtmidechdlbcepaaGreatPack10
import Derived.Test.YtmidechdlbcepaaGreatPack30
import Derived.Test.YtmidechdlbcepaaGreatPack26
set_option linter.unusedSimpArgs false
set_option linter.unusedVariables false
namespace Go.Proofs.YtmidechdlbcepaaGreat
open Go.RowKit
set_option maxRecDepth 100000
theorem flFault_ok {f : Fl} (h1 : f.ms.length ≤ 12) (h2 : f.ds.length ≤ 100) (h3 : 0 ≤ f.table ∧ f.table ≤ 7) (h4 : 0 ≤ f.prio ∧ f.prio ≤ 2000) (h5 : f.ms.all mxOk = true) (h6 : dxOk f.table f.ds = true) : flFault f = 0 := by
  unfold flFault
  rw [if_neg (by omega), if_neg (by rw [inR_iff.2 h3, inR_iff.2 h4]; simp), if_neg (by rw [h5]; simp), if_neg (by rw [h6]; simp)]
theorem mx_w {i v : Int} (hi : 0 ≤ i ∧ i ≤ 9) (hv : 0 ≤ v ∧ v ≤ 65535) : mxOk ⟨i, 65535, v⟩ = true := by
  have h1 : word v = true := decide_eq_true hv
  unfold mxOk
  rw [show inR i 0 9 = true from inR_iff.2 hi, h1, maskd_all h1, decide_eq_true rfl]
  rfl
theorem maskN_le (b : Int) : 0 ≤ maskN b ∧ maskN b ≤ 65535 := by
  unfold maskN
  have := Nat.two_pow_pos (16 - b.toNat)
  omega
theorem mx_r {i v b : Int} (hi : 0 ≤ i ∧ i ≤ 9) (hv : 0 ≤ v ∧ v ≤ 65535) (hb : 0 ≤ b ∧ b ≤ 16) (hm : v % unitOf b = 0) : mxOk ⟨i, maskN b, v⟩ = true := by
  have h1 : word v = true := decide_eq_true hv
  have h2 := mask_unit h1 hv hb hm
  rw [show (v / unitOf b == v / unitOf b) = true from beq_self_eq_true _, beq_iff_eq] at h2
  unfold mxOk
  rw [show inR i 0 9 = true from inR_iff.2 hi, show word (maskN b) = true from decide_eq_true (maskN_le b), h1, h2, decide_eq_true rfl]
  rfl
theorem dx_go {t n : Int} (h : t + 1 ≤ n ∧ n ≤ 7) : dxMay ⟨4, 0, n⟩ t true = true := by
  unfold dxMay
  simp [inR, h]
theorem dx_put {t a n : Int} {b : Bool} (ha : 0 ≤ a ∧ a ≤ 9) (hn : 0 ≤ n ∧ n ≤ 65535) : dxMay ⟨1, a, n⟩ t b = true := by
  unfold dxMay
  simp [inR, word, ha, hn]
theorem dx_copy {t a n : Int} {b : Bool} (ha : 0 ≤ a ∧ a ≤ 9) (hn : 0 ≤ n ∧ n ≤ 9) : dxMay ⟨2, a, n⟩ t b = true := by
  unfold dxMay
  simp [inR, ha, hn]
theorem dx_less {t a : Int} {b : Bool} (ha : 0 ≤ a ∧ a ≤ 9) : dxMay ⟨3, a, 0⟩ t b = true := by
  unfold dxMay
  simp [inR, ha]
theorem dx_out {t n : Int} {b : Bool} (hn : 0 ≤ n ∧ n ≤ 65535) : dxMay ⟨5, 0, n⟩ t b = true := by
  unfold dxMay
  simp [word, hn]
theorem dx_tunnel {t n : Int} {b : Bool} (hn : 0 ≤ n ∧ n ≤ 5) : dxMay ⟨6, 0, n⟩ t b = true := by
  unfold dxMay
  simp [inR, hn]
theorem dxOk_cons {t : Int} {d : Dx} {l : List Dx} (h1 : dxMay d t l.isEmpty = true) (h2 : dxOk t l = true) : dxOk t (d :: l) = true := by
  rw [dxOk, h1, h2]
  rfl
section
theorem enters_ok {c : Cf} (hc : CfOk c) {ch : Int} (hch : 0 ≤ ch ∧ ch ≤ 5) {g : Fl} (h : g ∈ entersF (hereF c ch)) : flFault g = 0 := by
  rcases enters_mem.1 h with rfl | ⟨q, ⟨hq, e⟩, rfl | rfl⟩
  · decide
  all_goals
    have h1 := (hc.pg q hq).1
    have h2 := (hc.swIn hq)
    have h3 := (hc.sr _ h2.1).1
    unfold PoR at h1
    refine flFault_ok (by simp [enterA, enterB_, enterM]) (by simp [enterA, enterB_]) ⟨of_decide_eq_true rfl, of_decide_eq_true rfl⟩ ⟨of_decide_eq_true rfl, of_decide_eq_true rfl⟩ ?_ ?_
  · show List.all [_, _, _, _] _ = true
    simp only [List.all_cons, List.all_nil, mx_w (i := 0) (v := q.id) (by omega) (by omega), mx_w (i := 2) (v := q.mac) (by omega) (by omega), mx_w (i := 4) (v := q.ip) (by omega) (by omega), mx_w (i := 3) (v := 3) (by omega) (by omega), Bool.and_true]
  · exact dxOk_cons (dx_put (by omega) (by omega)) (dxOk_cons (dx_go (by show (0 : Int) + 1 ≤ 1 ∧ _; omega)) rfl)
  · show List.all [_, _, _, _] _ = true
    simp only [List.all_cons, List.all_nil, mx_w (i := 0) (v := q.id) (by omega) (by omega), mx_w (i := 2) (v := q.mac) (by omega) (by omega), mx_w (i := 4) (v := q.ip) (by omega) (by omega), mx_w (i := 3) (v := 1) (by omega) (by omega), Bool.and_true]
  · exact dxOk_cons (dx_put (by omega) (by omega)) (dxOk_cons (dx_go (by show (0 : Int) + 1 ≤ 2 ∧ _; omega)) rfl)
theorem rules_ok {c : Cf} (hc : CfOk c) {t next : Int} {inn : Bool} (ht : 0 ≤ t ∧ t + 1 ≤ next ∧ next ≤ 7) {g : Fl} (h : g ∈ rulesF c t next inn) : flFault g = 0 := by
  unfold rulesF at h
  rcases List.mem_append.1 h with h | h
  · obtain ⟨h1, h2, h3, a, h4, h5⟩ := rulesL_mem h
    have h6 := (List.mem_filter.1 ((sortA_stab _).mem.1 h4)).1
    obtain ⟨⟨⟨_, b1, b2, b3, b4, b5⟩, b6, b7⟩, hsw⟩ := hc.ar a h6
    obtain ⟨s, hs, hsi⟩ := hsw
    have h7 := (hc.sr s hs).1
    have hlen : (sortA (ofKind c inn)).length ≤ 40 := by
      rw [sortA, (List.mergeSort_perm _ geA).length_eq]
      exact Nat.le_trans (List.length_filter_le _ _) hc.al
    rw [h5]
    have m1 := mx_w (i := 8) (v := a.sw) (by omega) (by omega)
    have m2 := mx_r (i := 4) (by omega) b1 b3 b6
    have m3 := mx_r (i := 5) (by omega) b2 b4 b7
    refine flFault_ok ?_ ?_ ?_ ?_ ?_ ?_
    · show (ruleM a).length ≤ 12
      unfold ruleM
      split <;> simp
    · show (if a.deny = true then ([] : List Dx) else [⟨4, 0, next⟩]).length ≤ 100
      split <;> simp
    · show 0 ≤ t ∧ t ≤ 7
      omega
    · show 0 ≤ g.prio ∧ g.prio ≤ 2000
      omega
    · show (ruleM a).all mxOk = true
      unfold ruleM
      by_cases hp : 0 ≤ a.port
      · rw [if_pos hp]
        show List.all [_, _, _, _] _ = true
        simp only [List.all_cons, List.all_nil, m1, m2, m3, mx_w (i := 7) (v := a.port) (by omega) (by omega), Bool.and_true]
      · rw [if_neg hp]
        show List.all [_, _, _] _ = true
        simp only [List.all_cons, List.all_nil, m1, m2, m3, Bool.and_true]
    · show dxOk t (if a.deny = true then [] else [⟨4, 0, next⟩]) = true
      split
      · rfl
      · exact dxOk_cons (dx_go ⟨ht.2.1, ht.2.2⟩) rfl
  · obtain rfl := List.mem_singleton.1 h
    exact flFault_ok (by simp [restF]) (by simp [restF]) (by show 0 ≤ t ∧ t ≤ 7; omega) ⟨of_decide_eq_true rfl, of_decide_eq_true rfl⟩ rfl (dxOk_cons (dx_go ⟨ht.2.1, ht.2.2⟩) rfl)
theorem answers_ok {c : Cf} (hc : CfOk c) {ch : Int} (hch : 0 ≤ ch ∧ ch ≤ 5) {g : Fl} (h : g ∈ answersF c (hereF c ch)) : flFault g = 0 := by
  have key : ∀ net ip mac : Int, 0 ≤ net ∧ net ≤ 65535 → 0 ≤ ip ∧ ip ≤ 65535 → 0 ≤ mac ∧ mac ≤ 65535 → flFault (tellF net ip mac) = 0 := fun net ip mac h1 h2 h3 => by
    refine flFault_ok (by simp [tellF]) (by simp [tellF]) ⟨of_decide_eq_true rfl, of_decide_eq_true rfl⟩ ⟨of_decide_eq_true rfl, of_decide_eq_true rfl⟩ ?_ ?_
    · show List.all [_, _] _ = true
      simp only [List.all_cons, List.all_nil, mx_w (i := 8) (v := net) (by omega) h1, mx_w (i := 5) (v := ip) (by omega) h2, Bool.and_true]
    · exact dxOk_cons (dx_copy (by omega) (by omega)) (dxOk_cons (dx_put (by omega) h3) (dxOk_cons (dx_copy (by omega) (by omega)) (dxOk_cons (dx_put (by omega) h2) (dxOk_cons (dx_put (by omega) (by omega)) (dxOk_cons (dx_copy (by omega) (by omega)) (dxOk_cons (dx_go (by show (2 : Int) + 1 ≤ 5 ∧ _; omega)) rfl))))))
  rcases answers_mem.1 h with ⟨q, hq, rfl⟩ | ⟨q, hq, rfl⟩ | ⟨s, hs, _, rfl⟩
  · have h1 := (hc.pg q hq).1
    have h3 := (hc.sr _ (hc.swIn hq).1).1
    have h4 := (hc.swIn hq).2
    unfold PoR at h1
    exact key _ _ _ (by omega) (by omega) (by omega)
  · have h1 := (hc.pg q hq.1).1
    unfold PoR at h1
    refine flFault_ok (by simp [answerOwn]) (by simp [answerOwn]) ⟨of_decide_eq_true rfl, of_decide_eq_true rfl⟩ ⟨of_decide_eq_true rfl, of_decide_eq_true rfl⟩ ?_ rfl
    show List.all [_, _] _ = true
    simp only [List.all_cons, List.all_nil, mx_w (i := 0) (v := q.id) (by omega) (by omega), mx_w (i := 5) (v := q.ip) (by omega) (by omega), Bool.and_true]
  · have h1 := hc.sr s hs
    unfold SwR at h1
    exact key _ _ _ (by omega) (by omega) (by omega)
theorem leads_ok {c : Cf} (hc : CfOk c) {ch : Int} (hch : 0 ≤ ch ∧ ch ≤ 5) {g : Fl} (h : g ∈ leadsF c (hereF c ch)) : flFault g = 0 := by
  rcases leads_mem.1 h with ⟨q, hq, rfl⟩ | ⟨q, hq, rfl | rfl⟩ | ⟨s, hs, _, h⟩
  · have h1 := (hc.pg q hq).1
    have h3 := (hc.sr _ (hc.swIn hq).1).1
    have h4 := (hc.swIn hq).2
    unfold PoR at h1
    refine flFault_ok (by simp [leadPort]) (by simp [leadPort]) ⟨of_decide_eq_true rfl, of_decide_eq_true rfl⟩ ⟨of_decide_eq_true rfl, of_decide_eq_true rfl⟩ ?_ ?_
    · show List.all [_, _] _ = true
      simp only [List.all_cons, List.all_nil, mx_w (i := 8) (v := q.sw) (by omega) (by omega), mx_w (i := 1) (v := q.mac) (by omega) (by omega), Bool.and_true]
    · exact dxOk_cons (dx_put (by omega) (by omega)) (dxOk_cons (dx_go (by show (3 : Int) + 1 ≤ 4 ∧ _; omega)) rfl)
  · have h1 := (hc.pg q hq.1).1
    unfold PoR at h1
    refine flFault_ok (by simp [leadSelf]) (by simp [leadSelf]) ⟨of_decide_eq_true rfl, of_decide_eq_true rfl⟩ ⟨of_decide_eq_true rfl, of_decide_eq_true rfl⟩ ?_ rfl
    show List.all [_, _] _ = true
    simp only [List.all_cons, List.all_nil, mx_w (i := 0) (v := q.id) (by omega) (by omega), mx_w (i := 1) (v := q.mac) (by omega) (by omega), Bool.and_true]
  · have h1 := (hc.pg q hq.1).1
    unfold PoR at h1
    have hl := flat_le (f := floodQ q) (n := 2) (fun r => by unfold floodQ; split <;> simp) c.ps
    have hpl := hc.pl
    refine flFault_ok (by simp [leadAll]) (by show (c.ps.flatMap (floodQ q)).length ≤ 100; omega) ⟨of_decide_eq_true rfl, of_decide_eq_true rfl⟩ ⟨of_decide_eq_true rfl, of_decide_eq_true rfl⟩ ?_ ?_
    · show List.all [_, _] _ = true
      simp only [List.all_cons, List.all_nil, mx_w (i := 0) (v := q.id) (by omega) (by omega), mx_w (i := 1) (v := 65535) (by omega) (by omega), Bool.and_true]
    · have := dxOk_app (t := 3) (l := c.ps.flatMap (floodQ q)) (m := []) (fun d hd b => ?_) rfl
      · rw [List.append_nil] at this
        exact this
      · obtain ⟨r, hr, hd⟩ := List.mem_flatMap.1 hd
        have h2 := (hc.pg r hr).1
        unfold PoR at h2
        unfold floodQ at hd
        split at hd
        · simp only [List.mem_cons, List.not_mem_nil, or_false] at hd
          rcases hd with rfl | rfl
          · exact dx_put (by omega) (by omega)
          · exact dx_tunnel (by omega)
        · simp at hd
  · have hs1 := hc.sr s hs
    unfold SwR at hs1
    have m8 := mx_w (i := 8) (v := s.id) (by omega) (by omega)
    have m1 := mx_w (i := 1) (v := 60000 + s.id) (by omega) (by omega)
    rcases h with rfl | rfl | ⟨q, hq, _, _, rfl⟩
    · refine flFault_ok (by simp [leadTtl, routerM]) (by simp [leadTtl]) ⟨of_decide_eq_true rfl, of_decide_eq_true rfl⟩ ⟨of_decide_eq_true rfl, of_decide_eq_true rfl⟩ ?_ rfl
      show List.all [_, _, _] _ = true
      simp only [List.all_cons, List.all_nil, m8, m1, mx_w (i := 6) (v := 0) (by omega) (by omega), Bool.and_true]
    · refine flFault_ok (by simp [leadTtl, routerM]) (by simp [leadTtl]) ⟨of_decide_eq_true rfl, of_decide_eq_true rfl⟩ ⟨of_decide_eq_true rfl, of_decide_eq_true rfl⟩ ?_ rfl
      show List.all [_, _, _] _ = true
      simp only [List.all_cons, List.all_nil, m8, m1, mx_w (i := 6) (v := 1) (by omega) (by omega), Bool.and_true]
    · have h1 := (hc.pg q hq).1
      have h3 := (hc.sr _ (hc.swIn hq).1).1
      unfold PoR at h1
      refine flFault_ok (by simp [leadTo, routerM]) (by simp [leadTo]) ⟨of_decide_eq_true rfl, of_decide_eq_true rfl⟩ ⟨of_decide_eq_true rfl, of_decide_eq_true rfl⟩ ?_ ?_
      · show List.all [_, _, _] _ = true
        simp only [List.all_cons, List.all_nil, m8, m1, mx_w (i := 5) (v := q.ip) (by omega) (by omega), Bool.and_true]
      · exact dxOk_cons (dx_put (by omega) (by omega)) (dxOk_cons (dx_put (by omega) (by omega)) (dxOk_cons (dx_less (by omega)) (dxOk_cons (dx_put (by omega) (by omega)) (dxOk_cons (dx_put (by omega) (by omega)) (dxOk_cons (dx_go (by show (3 : Int) + 1 ≤ 4 ∧ _; omega)) rfl)))))
theorem leave_ok {c : Cf} (hc : CfOk c) {ch : Int} (hch : 0 ≤ ch ∧ ch ≤ 5) {g : Fl} (h : g ∈ leavesF c ch) : flFault g = 0 := by
  obtain ⟨q, hq, h⟩ := leaves_mem.1 h
  have h1 := (hc.pg q hq).1
  have h3 := (hc.sr _ (hc.swIn hq).1).1
  have h4 := (hc.swIn hq).2
  unfold PoR at h1
  have m9 := mx_w (i := 9) (v := q.id) (by omega) (by omega)
  have m8 := mx_w (i := 8) (v := q.sw) (by omega) (by omega)
  rcases h with ⟨e, rfl | rfl | rfl | rfl⟩ | ⟨e1, e2, rfl⟩
  · refine flFault_ok (by simp [leave1]) (by simp [leave1]) ⟨of_decide_eq_true rfl, of_decide_eq_true rfl⟩ ⟨of_decide_eq_true rfl, of_decide_eq_true rfl⟩ ?_ (dxOk_cons (dx_go (by show (4 : Int) + 1 ≤ 5 ∧ _; omega)) rfl)
    show List.all [_] _ = true
    simp only [List.all_cons, List.all_nil, m9, Bool.and_true]
  · refine flFault_ok (by simp [leave2, leaveM]) (by simp [leave2]) ⟨of_decide_eq_true rfl, of_decide_eq_true rfl⟩ ⟨of_decide_eq_true rfl, of_decide_eq_true rfl⟩ ?_ (dxOk_cons (dx_out (by omega)) rfl)
    show List.all [_, _, _] _ = true
    simp only [List.all_cons, List.all_nil, m8, m9, mx_w (i := 3) (v := 2) (by omega) (by omega), Bool.and_true]
  · refine flFault_ok (by simp [leave3, leaveM]) (by simp [leave3]) ⟨of_decide_eq_true rfl, of_decide_eq_true rfl⟩ ⟨of_decide_eq_true rfl, of_decide_eq_true rfl⟩ ?_ (dxOk_cons (dx_go (by show (5 : Int) + 1 ≤ 6 ∧ _; omega)) rfl)
    show List.all [_, _, _] _ = true
    simp only [List.all_cons, List.all_nil, m8, m9, mx_w (i := 3) (v := 3) (by omega) (by omega), Bool.and_true]
  · refine flFault_ok (by simp [leave4]) (by simp [leave4]) ⟨of_decide_eq_true rfl, of_decide_eq_true rfl⟩ ⟨of_decide_eq_true rfl, of_decide_eq_true rfl⟩ ?_ (dxOk_cons (dx_out (by omega)) rfl)
    show List.all [_] _ = true
    simp only [List.all_cons, List.all_nil, m9, Bool.and_true]
  · refine flFault_ok (by simp [leave5]) (by simp [leave5]) ⟨of_decide_eq_true rfl, of_decide_eq_true rfl⟩ ⟨of_decide_eq_true rfl, of_decide_eq_true rfl⟩ ?_ (dxOk_cons (dx_tunnel (by omega)) rfl)
    show List.all [_] _ = true
    simp only [List.all_cons, List.all_nil, m9, Bool.and_true]
theorem comp_ok {c : Cf} (hc : CfOk c) {ch : Int} (hch : 0 ≤ ch ∧ ch ≤ 5) {g : Fl} (h : g ∈ compF_ c ch) : flFault g = 0 := by
  rcases comp_mem.1 h with h | h | h | h | h | h
  · exact enters_ok hc hch h
  · exact rules_ok hc (by omega) h
  · exact answers_ok hc hch h
  · exact leads_ok hc hch h
  · exact leave_ok hc hch h
  · exact rules_ok hc (by omega) h
theorem all_len {c : Cf} (hc : CfOk c) {ch : Int} : (allF c ch).length ≤ 1100 := by
  have hp := hc.pl
  have hs := hc.sl
  have ha := hc.al
  have hH : (hereF c ch).length ≤ 40 := Nat.le_trans (List.length_filter_le _ _) hp
  have e1 : (entersF (hereF c ch)).length ≤ 81 := by
    have := flat_le (f := fun p => [enterA p, enterB_ p]) (n := 2) (fun _ => by simp) (hereF c ch)
    rw [entersF, List.length_cons]
    omega
  have e2 : ∀ t next inn, (rulesF c t next inn).length ≤ 41 := fun t next inn => by
    have h1 : (sortA (ofKind c inn)).length ≤ 40 := by
      rw [sortA, (List.mergeSort_perm _ geA).length_eq]
      exact Nat.le_trans (List.length_filter_le _ _) ha
    rw [rulesF, List.length_append, rulesL_len]
    simp only [List.length_cons, List.length_nil]
    omega
  have e3 : (answersF c (hereF c ch)).length ≤ 92 := by
    have := flat_le (f := answerSw) (n := 1) (fun s => by unfold answerSw; split <;> simp) c.ss
    rw [answersF, List.length_append, List.length_append, List.length_map, List.length_map]
    omega
  have e4 : (leadsF c (hereF c ch)).length ≤ 624 := by
    have h1 := flat_le (f := fun p => [leadSelf p, leadAll c p]) (n := 2) (fun _ => by simp) (hereF c ch)
    have h2 : ∀ s : Sw, (leadSw c s).length ≤ 42 := fun s => by
      have := flat_le (f := leadSwP c s) (n := 1) (fun p => by unfold leadSwP; split <;> simp) c.ps
      unfold leadSw
      split
      · simp
      · rw [List.length_append]
        show 2 + _ ≤ 42
        omega
    have h3 := flat_le (f := leadSw c) (n := 42) h2 c.ss
    rw [leadsF, List.length_append, List.length_append, List.length_map]
    omega
  have e5 : (leavesF c ch).length ≤ 160 := by
    have := flat_le (f := leaveF ch) (n := 4) (fun p => by unfold leaveF; split <;> (try split) <;> simp) c.ps
    unfold leavesF
    omega
  have e6 := e2 1 3 true
  have e7 := e2 6 7 false
  unfold allF
  simp only [List.length_append]
  omega
theorem comp_len {c : Cf} (hc : CfOk c) {ch : Int} : (compF_ c ch).length ≤ 1100 := by
  have h1 := compF_len (sortF (allF c ch))
  rw [(sortF_perm _).length_eq] at h1
  have h2 := all_len (ch := ch) hc
  unfold compF_ sortedF
  omega
theorem comp_fault {c : Cf} (hc : CfOk c) {ch : Int} (hch : 0 ≤ ch ∧ ch ≤ 5) : flowsFault (compF_ c ch) = 0 := by
  have := comp_len (ch := ch) hc
  unfold flowsFault
  rw [if_neg (by omega)]
  exact flsFault_all fun g hg => comp_ok hc hch hg
end
theorem comp_strict (c : Cf) (ch : Int) : StrictF (compF_ c ch) := sortedF_strict _
def compE (c : Cf) (ch : Int) : Int := if cfMay c = false then 8 else if ch < 0 ∨ 6 ≤ ch then 2 else 0
def compR (c : Cf) (ch : Int) : List Fl := if compE c ch ≠ 0 then [] else compF_ c ch
def sntAr (s : Snt) : Ar := ⟨s.n, frOfP s.p⟩
def outA (s : Snt) : List Ar := if s.kind = 5 then [sntAr s] else []
def runF0 (L : List Fl) (p : Pk) : List Ar := (ranOf L p).flatMap outA
def flAt (Fs : List (List Fl)) (ch : Int) : List Fl := Fs.getD ch.toNat []
def hopA (Fs : List (List Fl)) (s : Snt) : List Ar := if s.kind = 5 then [sntAr s] else runF0 (flAt Fs s.n) (pkOf (frOfP s.p) 0 s.p.f8 s.p.f9)
def runF1 (Fs : List (List Fl)) (ch : Int) (p : Pk) : List Ar := (ranOf (flAt Fs ch) p).flatMap (hopA Fs)
def flK (ch : Int) : Option Cf → List Fl
  | none => []
  | some c => compF_ c ch
def cfK (k : Option Cf) : Cf := k.getD cf0
abbrev Kn := List (Option Cf)
def flsK (K : Kn) : List (List Fl) := (List.range 6).map fun i : Nat => flK (i : Int) (K.getD i none)
def cfAt (K : Kn) (ch : Int) : Cf := cfK (K.getD ch.toNat none)
structure KnOk (K : Kn) : Prop where
  ok : ∀ k ∈ K, ∀ c, k = some c → CfOk c
theorem KnOk.at {K : Kn} (h : KnOk K) (i : Nat) : ∀ c, K.getD i none = some c → CfOk c := by
  intro c hc
  rcases Nat.lt_or_ge i K.length with hi | hi
  · rw [List.getD_eq_getElem?_getD, List.getElem?_eq_getElem hi, Option.getD_some] at hc
    exact h.ok _ (List.getElem_mem hi) c hc
  · rw [List.getD_eq_getElem?_getD, List.getElem?_eq_none hi] at hc
    cases hc
theorem KnOk.cf {K : Kn} (h : KnOk K) (ch : Int) : CfOk (cfAt K ch) := by
  unfold cfAt cfK
  cases hk : K.getD ch.toNat none with
  | none => exact CfOk.nil
  | some c => exact h.at _ c hk
theorem flAt_K {K : Kn} {ch : Int} (hch : 0 ≤ ch ∧ ch ≤ 5) : flAt (flsK K) ch = flK ch (K.getD ch.toNat none) := by
  obtain ⟨n, rfl⟩ := Int.eq_ofNat_of_zero_le hch.1
  unfold flAt flsK
  rw [Int.toNat_natCast, List.getD_eq_getElem?_getD, List.getElem?_map, List.getElem?_range (by omega)]
  rfl
theorem ranOf_nil (p : Pk) : ranOf [] p = [] := by
  have : execT [] ⟨p, 0, []⟩ = ⟨p, -1, []⟩ := exec_miss (L := []) (by simp)
  rw [ranOf_go, goT_step (s' := ⟨p, -1, []⟩) (by dsimp only; omega) this (.inl (by show (-1 : Int) < 0; decide)), goT_end]
section
theorem sent_known {K : Kn} (hK : KnOk K) {ch : Int} (hch : 0 ≤ ch ∧ ch ≤ 5) {f : Fr} (hff : frameFault f = 0) {id : Int} (hid : 1 ≤ id ∧ id ≤ 65535) : ranOf (flAt (flsK K) ch) (pkOf f id 0 0) = (ledF (cfAt K ch) ch id f).filterMap (sentG (cfAt K ch) ch id (floodB f)) := by
  have h := hK.at ch.toNat
  rw [flAt_K hch]
  unfold cfAt cfK
  cases hk : K.getD ch.toNat none with
  | none => exact ranOf_nil _
  | some c => exact led_sent (h c hk) hch.1 hff hid
theorem come_known {K : Kn} (hK : KnOk K) {ch : Int} (hch : 0 ≤ ch ∧ ch ≤ 5) {f : Fr} (hf : FrMay f) {n t : Int} (hn : 0 ≤ n ∧ n ≤ 65535) (ht : 0 ≤ t ∧ t ≤ 65535) (hk : f.kind ≠ 1) : ranOf (flAt (flsK K) ch) (pkOf f 0 n t) = if comesG (cfAt K ch) ch ⟨n, t, f⟩ = true then [⟨5, t, pkOf f 0 n t⟩] else [] := by
  have h := hK.at ch.toNat
  rw [flAt_K hch]
  unfold cfAt cfK
  cases hkk : K.getD ch.toNat none with
  | none =>
    refine (ranOf_nil _).trans ?_
    rw [if_neg (by simp [comesG, poAt, cf0])]
  | some c => exact come_sent (h c hkk) ch hf hn ht hk
end
structure GlOk (c : Cf) (g : Gl) : Prop where
  net : 0 ≤ g.net ∧ g.net ≤ 65535
  to : 1 ≤ g.to ∧ g.to ≤ 999
  is : frameFault g.is = 0
  kind : g.is.kind = 2 ∨ g.is.kind = 3
  po : ∃ q ∈ c.ps, poAt c g.to = some q ∧ 0 ≤ q.ch ∧ q.ch ≤ 5
theorem ledFr_ok {f : Fr} {q : Po} {t : Sw} (hff : frameFault f = 0) (hk : f.kind = 3) (ht : 1 < f.ttl) (h1 : 0 ≤ q.mac ∧ q.mac ≤ 65535) (h2 : 0 ≤ 60000 + t.id ∧ 60000 + t.id ≤ 65535) : frameFault (ledFr f q t) = 0 := by
  have hf := frMay hff
  have e : ∀ n : Int, 0 ≤ n ∧ n ≤ 65535 → word n = true := fun n h => decide_eq_true h
  have := hf.ttl
  have := hf.body
  unfold frameFault ledFr
  dsimp only
  rw [if_neg (by omega), if_neg (by rw [e _ h1, e _ h2, e _ hf.ipSrc, e _ hf.ipDst, e _ hf.port]; simp; omega), if_neg (by omega), if_neg (by omega)]
theorem tellG_ok {p : Po} {f : Fr} {net mac : Int} (hi : 0 ≤ f.ipDst ∧ f.ipDst ≤ 65535) (hp : PoR p) (h1 : 0 ≤ mac ∧ mac ≤ 65535) : frameFault (tellG p f net mac).is = 0 := by
  have e : ∀ n : Int, 0 ≤ n ∧ n ≤ 65535 → word n = true := fun n h => decide_eq_true h
  unfold PoR at hp
  unfold frameFault tellG
  dsimp only
  rw [if_neg (by omega), if_neg (by rw [e _ hi, e _ h1, e p.mac (by omega), e p.ip (by omega), e 0 (by omega)]; simp), if_neg (by decide), if_neg (by decide)]
theorem led_ok {c : Cf} (hc : CfOk c) {ch : Int} (hch : 0 ≤ ch ∧ ch ≤ 5) {f : Fr} (hff : frameFault f = 0) {id : Int} {g : Gl} (hg : g ∈ ledF c ch id f) : GlOk c g := by
  have hf := frMay hff
  unfold ledF at hg
  cases hpo : poAt c id with
  | none => rw [hpo] at hg; simp at hg
  | some p =>
    rw [hpo] at hg
    dsimp only at hg
    obtain ⟨hp, hid⟩ := poAt_mem hpo
    have hpr := (hc.pg p hp).1
    have hpr2 := hpr
    unfold PoR at hpr2
    have hs := hc.swIn hp
    have hsr := hc.sr _ hs.1
    unfold SwR at hsr
    split at hg
    · simp at hg
    rename_i hbad
    have hpc : p.ch = ch := Classical.byContradiction fun h => hbad (.inl h)
    have key : ∀ mac, 0 ≤ mac ∧ mac ≤ 65535 → GlOk c (tellG p f (swAt c.ss p.sw).id mac) := fun mac hm =>
      ⟨by show 0 ≤ (swAt c.ss p.sw).id ∧ (swAt c.ss p.sw).id ≤ 65535; omega, hpr2.1, tellG_ok hf.ipDst hpr hm, .inl rfl, p, hp, poAt_is hc hp, by omega⟩
    split at hg
    · unfold askG at hg
      split at hg
      · obtain rfl := List.mem_singleton.1 hg
        exact key _ (by omega)
      · split at hg
        · rename_i q hq
          obtain rfl := List.mem_singleton.1 hg
          have hq1 := (hc.pg q (List.mem_of_find?_eq_some hq)).1
          unfold PoR at hq1
          exact key _ (by omega)
        · simp at hg
    · rename_i hk1
      unfold dataG at hg
      split at hg
      · simp at hg
      rename_i hk
      have hk3 : f.kind = 3 := Classical.byContradiction fun h => hk (.inl h)
      obtain ⟨q, hq, hg⟩ := List.mem_flatMap.1 hg
      have hqr := (hc.pg q hq).1
      unfold PoR at hqr
      have ht := hc.swIn hq
      have htr := hc.sr _ ht.1
      unfold SwR at htr
      unfold goalQ at hg
      split at hg
      · simp at hg
      rename_i hqc
      rcases List.mem_append.1 hg with hg | hg
      · split at hg
        · obtain rfl := List.mem_singleton.1 hg
          exact ⟨by show 0 ≤ (swAt c.ss p.sw).id ∧ (swAt c.ss p.sw).id ≤ 65535; omega, hqr.1, hff, .inr hk3, q, hq, poAt_is hc hq, by omega⟩
        · simp at hg
      · split at hg
        · rename_i h
          obtain rfl := List.mem_singleton.1 hg
          exact ⟨by show 0 ≤ (swAt c.ss q.sw).id ∧ (swAt c.ss q.sw).id ≤ 65535; omega, hqr.1, ledFr_ok hff hk3 h.2.2.1 (by omega) (by omega), .inr hk3, q, hq, poAt_is hc hq, by omega⟩
        · simp at hg
def arrG (K : Kn) (ch : Int) (g : Gl) : List Ar := match poAt (cfAt K ch) g.to with
  | some q => if comesG (cfAt K q.ch) q.ch g = true then [⟨g.to, g.is⟩] else []
  | none => []
theorem fm_flat {α β γ : Type} (f : α → Option β) (g : β → List γ) (h : α → List γ) : ∀ {l : List α}, (∀ x ∈ l, (match f x with | some y => g y | none => []) = h x) → (l.filterMap f).flatMap g = l.flatMap h
  | [], _ => rfl
  | x :: l, hx => by
    have h1 := hx x (by simp)
    have ih := fm_flat f g h (l := l) fun y hy => hx y (by simp [hy])
    rw [List.filterMap_cons, List.flatMap_cons]
    cases hf : f x with
    | none => rw [hf] at h1; dsimp only at h1 ⊢; rw [← h1, ih, List.nil_append]
    | some y => rw [hf] at h1; dsimp only at h1 ⊢; rw [← h1, List.flatMap_cons, ih]
theorem arr_led {K : Kn} (hK : KnOk K) {ch : Int} (hch : 0 ≤ ch ∧ ch ≤ 5) {f : Fr} (hff : frameFault f = 0) {id : Int} (hid : 1 ≤ id ∧ id ≤ 65535) : runF1 (flsK K) ch (pkOf f id 0 0) = (ledF (cfAt K ch) ch id f).flatMap (arrG K ch) := by
  unfold runF1
  rw [sent_known hK hch hff hid]
  refine fm_flat _ _ _ fun g hg => ?_
  obtain ⟨h1, h2, h3, h4, q, hq, hpo, h5, h6⟩ := led_ok (hK.cf ch) hch hff hg
  unfold sentG arrG
  rw [hpo]
  dsimp only
  by_cases hd : q.ch = ch ∧ floodB f = false
  · rw [if_pos hd, hd.1]
    by_cases hc : comesG (cfAt K ch) ch g = true
    · rw [if_pos hc, if_pos hc]
      rfl
    · rw [if_neg hc, if_neg hc]
  · rw [if_neg hd]
    dsimp only
    unfold hopA
    rw [if_neg (show ¬ (6 : Int) = 5 by decide)]
    unfold runF0
    have e : pkOf (frOfP (pkG id g)) 0 (pkG id g).f8 (pkG id g).f9 = pkOf g.is 0 g.net g.to := rfl
    rw [e, come_known hK ⟨h5, h6⟩ (frMay h3) h1 (by omega) (by omega)]
    by_cases hc : comesG (cfAt K q.ch) q.ch g = true
    · rw [if_pos (show comesG (cfAt K q.ch) q.ch ⟨g.net, g.to, g.is⟩ = true from hc), if_pos hc]
      rfl
    · rw [if_neg (show ¬ comesG (cfAt K q.ch) q.ch ⟨g.net, g.to, g.is⟩ = true from hc), if_neg hc]
      rfl
def sentOfF (K : Kn) (ch id : Int) (f : Fr) : List Ar := (List.range 1000).flatMap fun n : Nat => (ledF (cfAt K ch) ch id f).flatMap fun g => if g.to = (n : Int) then arrG K ch g else []
theorem arrG_port {K : Kn} {ch : Int} {g : Gl} {x : Ar} (h : x ∈ arrG K ch g) : x.port = g.to := by
  unfold arrG at h
  split at h
  · split at h
    · obtain rfl := List.mem_singleton.1 h
      rfl
    · simp at h
  · simp at h
theorem pw_flat {α β : Type} {R : β → β → Prop} {f : α → List β} : ∀ {l : List α}, l.Pairwise (fun a b => ∀ x ∈ f a, ∀ y ∈ f b, R x y) → (∀ a ∈ l, (f a).Pairwise R) → (l.flatMap f).Pairwise R
  | [], _, _ => by simp
  | a :: l, h, h2 => by
    obtain ⟨h3, h4⟩ := List.pairwise_cons.1 h
    rw [List.flatMap_cons, List.pairwise_append]
    refine ⟨h2 a (by simp), pw_flat h4 fun b hb => h2 b (by simp [hb]), fun x hx y hy => ?_⟩
    obtain ⟨b, hb, hy⟩ := List.mem_flatMap.1 hy
    exact h3 b hb x hx y hy
theorem filter_flat {α β : Type} (p : β → Bool) (f : α → List β) : ∀ l : List α, (l.flatMap f).filter p = l.flatMap fun x => (f x).filter p
  | [] => rfl
  | x :: l => by rw [List.flatMap_cons, List.flatMap_cons, List.filter_append, filter_flat p f l]
theorem sorted_led {K : Kn} (hK : KnOk K) {ch : Int} (hch : 0 ≤ ch ∧ ch ≤ 5) {f : Fr} (hff : frameFault f = 0) {id : Int} : AS.sortA ((ledF (cfAt K ch) ch id f).flatMap (arrG K ch)) = sentOfF K ch id f := by
  symm
  have hto : ∀ g ∈ ledF (cfAt K ch) ch id f, 1 ≤ g.to ∧ g.to ≤ 999 := fun g hg => (led_ok (hK.cf ch) hch hff hg).to
  have hmem : ∀ n : Nat, ∀ x, x ∈ ((ledF (cfAt K ch) ch id f).flatMap fun g => if g.to = (n : Int) then arrG K ch g else []) → x.port = (n : Int) := fun n x hx => by
    obtain ⟨g, hg, hx⟩ := List.mem_flatMap.1 hx
    split at hx
    · rename_i e
      rw [arrG_port hx, e]
    · simp at hx
  refine AS.StabA.is ⟨?_, fun p => ?_⟩
  · refine pw_flat ?_ fun n _ => ?_
    · refine List.Pairwise.imp ?_ (List.pairwise_lt_range (n := 1000))
      intro a b hab x hx y hy
      have h1 := hmem a x hx
      have h2 := hmem b y hy
      unfold Ar.prio
      omega
    · rw [List.pairwise_iff_forall_sublist]
      intro x y hxy
      have h1 := hmem n x (hxy.mem (show x ∈ [x, y] by simp))
      have h2 := hmem n y (hxy.mem (show y ∈ [x, y] by simp))
      unfold Ar.prio
      omega
  · unfold sentOfF
    rw [filter_flat, filter_flat]
    have hz : ∀ n : Nat, ((n : Int) ≠ -p) → (((ledF (cfAt K ch) ch id f).flatMap fun g => if g.to = (n : Int) then arrG K ch g else []).filter fun x => x.prio == p) = [] := fun n hn => by
      rw [List.filter_eq_nil_iff]
      intro x hx he
      have h1 := hmem n x hx
      have h2 : x.prio = p := by simpa using he
      unfold Ar.prio at h2
      omega
    by_cases hp : 0 ≤ -p ∧ -p ≤ 999
    · obtain ⟨n, hn⟩ := Int.eq_ofNat_of_zero_le hp.1
      rw [flat_one (r := n) (List.nodup_range) (List.mem_range.2 (by omega)) fun m _ hmn => hz m (by omega)]
      rw [filter_flat]
      refine flatMap_cg fun g hg => ?_
      by_cases e : g.to = (n : Int)
      · rw [if_pos e]
      · rw [if_neg e, List.filter_nil]
        symm
        rw [List.filter_eq_nil_iff]
        intro x hx he
        have h1 := arrG_port hx
        have h2 : x.prio = p := by simpa using he
        unfold Ar.prio at h2
        omega
    · rw [List.flatMap_eq_nil_iff.2 fun n hn => hz n (by have := List.mem_range.1 hn; omega)]
      symm
      rw [List.flatMap_eq_nil_iff]
      intro g hg
      rw [List.filter_eq_nil_iff]
      intro x hx he
      have h1 := arrG_port hx
      have h2 : x.prio = p := by simpa using he
      have := hto g hg
      unfold Ar.prio at h2
      omega

set_option maxHeartbeats 1000000 in
theorem indexSw_T (l : List Sw) (f : FuncId) (caps : List AV) (p : Sw → Bool) (hl : l.length < 9223372036854775807) (hp : ∀ x ∈ l, Fun Tryz.prog f (.agg ((encSw x).map .fv) :: caps) (.fv (.bool (p x)))) :
    Fun Tryz.prog 124 [.fv (slOf encSw l), .fn f caps] (.fv (.int .i64 (idxB p l))) := by
  refine Fun.body tbl_ok Tryz.func124 rfl (by kernel_rfl) rfl rfl rfl ?_
  repeat' (first | refine X.loc ?_ | refine nx ?_ | refine cb ?_ ?_ | (refine cc ?_ ?_ <;> intro hcond) | refine rb ?_ | refine nd ?_ | refine dk ?_ | fail)
  refine WP.loop (ι := Nat) (fun k => ⟨[(0, .fv (slOf encSw l)), (1, .fn f caps), (7, .fv (.int .i64 l.length)), (8, .fv (.int .i64 k))], []⟩) (fun k => k ≤ l.length ∧ ∀ x ∈ l.take k, p x = false) (fun k => l.length - k) 0 ⟨by omega, by simp⟩ ?_ ?_
  · exact lq
  rintro k ⟨hk, hd⟩
  try dsimp only
  by_cases hlt : k < l.length
  case neg =>
    repeat' (first | refine X.loc ?_ | refine nx ?_ | refine cb ?_ ?_ | (refine cc ?_ ?_ <;> intro hcond) | refine rb ?_ | refine nd ?_ | refine dk ?_ | fail)
    · exfalso
      simp at hcond
      omega
    · refine .f1 (.inl rfl) rfl ?_
      rw [idxB_none p l (by rw [List.take_of_length_le (by omega)] at hd; exact hd)]
  case pos =>
    obtain ⟨x, hx⟩ : ∃ x, l[k]? = some x := ⟨_, List.getElem?_eq_getElem hlt⟩
    have hf := hp x (List.mem_of_getElem? hx)
    repeat' (first | (apply X.loE; (· exact aR); (· first | (exact .eff (.idxS rfl rfl rfl encSw_len hx)) | exact .callL rfl rfl rfl (hf) rfl | exact bl (hf))) | refine X.loc ?_ | refine nx ?_ | refine cb ?_ ?_ | (refine cc ?_ ?_ <;> intro hcond) | (apply X.gsE; (· exact aR); (· exact aV); (· exact aW); (· intro hc; first | (exact .eff (.idxS rfl rfl rfl encSw_len hx)) | exact .callG rfl rfl rfl (hf) rfl | exact bg (hf)); (· exact aR)) | refine rb ?_ | refine nd ?_ | refine dk ?_ | fail)
    · refine .f1 (.inl rfl) rfl ?_
      rw [idxB_take p l k hd (fun y hy => by rw [hx] at hy; obtain rfl := Option.some.inj hy; exact hcond) hlt]
    · refine ⟨k + 1, ⟨by omega, ?_⟩, by omega, ?_⟩
      · rw [List.take_add_one, hx]
        intro y hy
        simp at hy
        rcases hy with hy | rfl
        · exact hd y hy
        · exact hcond
      · exact lq
    · exfalso
      simp at hcond
      omega
set_option maxHeartbeats 1000000 in
theorem indexPo_T (l : List Po) (f : FuncId) (caps : List AV) (p : Po → Bool) (hl : l.length < 9223372036854775807) (hp : ∀ x ∈ l, Fun Tryz.prog f (.agg ((encPo x).map .fv) :: caps) (.fv (.bool (p x)))) :
    Fun Tryz.prog 73 [.fv (slOf encPo l), .fn f caps] (.fv (.int .i64 (idxB p l))) := by
  refine Fun.body tbl_ok Tryz.func73 rfl (by kernel_rfl) rfl rfl rfl ?_
  repeat' (first | refine X.loc ?_ | refine nx ?_ | refine cb ?_ ?_ | (refine cc ?_ ?_ <;> intro hcond) | refine rb ?_ | refine nd ?_ | refine dk ?_ | fail)
  refine WP.loop (ι := Nat) (fun k => ⟨[(0, .fv (slOf encPo l)), (1, .fn f caps), (7, .fv (.int .i64 l.length)), (8, .fv (.int .i64 k))], []⟩) (fun k => k ≤ l.length ∧ ∀ x ∈ l.take k, p x = false) (fun k => l.length - k) 0 ⟨by omega, by simp⟩ ?_ ?_
  · exact lq
  rintro k ⟨hk, hd⟩
  try dsimp only
  by_cases hlt : k < l.length
  case neg =>
    repeat' (first | refine X.loc ?_ | refine nx ?_ | refine cb ?_ ?_ | (refine cc ?_ ?_ <;> intro hcond) | refine rb ?_ | refine nd ?_ | refine dk ?_ | fail)
    · exfalso
      simp at hcond
      omega
    · refine .f1 (.inl rfl) rfl ?_
      rw [idxB_none p l (by rw [List.take_of_length_le (by omega)] at hd; exact hd)]
  case pos =>
    obtain ⟨x, hx⟩ : ∃ x, l[k]? = some x := ⟨_, List.getElem?_eq_getElem hlt⟩
    have hf := hp x (List.mem_of_getElem? hx)
    repeat' (first | (apply X.loE; (· exact aR); (· first | (exact .eff (.idxS rfl rfl rfl encPo_len hx)) | exact .callL rfl rfl rfl (hf) rfl | exact bl (hf))) | refine X.loc ?_ | refine nx ?_ | refine cb ?_ ?_ | (refine cc ?_ ?_ <;> intro hcond) | (apply X.gsE; (· exact aR); (· exact aV); (· exact aW); (· intro hc; first | (exact .eff (.idxS rfl rfl rfl encPo_len hx)) | exact .callG rfl rfl rfl (hf) rfl | exact bg (hf)); (· exact aR)) | refine rb ?_ | refine nd ?_ | refine dk ?_ | fail)
    · refine .f1 (.inl rfl) rfl ?_
      rw [idxB_take p l k hd (fun y hy => by rw [hx] at hy; obtain rfl := Option.some.inj hy; exact hcond) hlt]
    · refine ⟨k + 1, ⟨by omega, ?_⟩, by omega, ?_⟩
      · rw [List.take_add_one, hx]
        intro y hy
        simp at hy
        rcases hy with hy | rfl
        · exact hd y hy
        · exact hcond
      · exact lq
    · exfalso
      simp at hcond
      omega
theorem containsPo_T (l : List Po) (f : FuncId) (caps : List AV) (p : Po → Bool) (hl : l.length < 9223372036854775807) (hp : ∀ x ∈ l, Fun Tryz.prog f (.agg ((encPo x).map .fv) :: caps) (.fv (.bool (p x)))) :
    Fun Tryz.prog 95 [.fv (slOf encPo l), .fn f caps] (.fv (.bool (l.any p))) := by
  refine Fun.body tbl_ok Tryz.func95 rfl (by kernel_rfl) rfl rfl rfl ?_
  repeat' (first | (apply X.loE; (· exact aR); (· first | exact .callL rfl rfl rfl (indexPo_T l f caps p hl hp) rfl | exact bl (indexPo_T l f caps p hl hp))) | refine X.loc ?_ | refine nx ?_ | refine cb ?_ ?_ | (refine cc ?_ ?_ <;> intro hcond) | (apply X.gsE; (· exact aR); (· exact aV); (· exact aW); (· intro hc; first | exact .callG rfl rfl rfl (indexPo_T l f caps p hl hp) rfl | exact bg (indexPo_T l f caps p hl hp)); (· exact aR)) | refine rb ?_ | refine nd ?_ | refine dk ?_ | fail)
  refine .f1 (.inl rfl) rfl ?_
  have := idxB_any p l
  cases h : l.any p
  · have := this.2 h
    simp
    omega
  · have h2 : ¬ idxB p l < 0 := fun h3 => by rw [this.1 h3] at h; cases h
    simp
    omega
theorem place1_T (s : Sw) (id : Int) : Fun Tryz.prog 125 [.agg ((encSw s).map .fv), .fptr [.int .i64 id]] (.fv (.bool (s.id == id))) := by
  refine Fun.body tbl_ok Tryz.func125 rfl (by kernel_rfl) rfl rfl rfl ?_
  repeat' (first | refine X.loc ?_ | refine nx ?_ | refine cb ?_ ?_ | (refine cc ?_ ?_ <;> intro hcond) | refine rb ?_ | refine nd ?_ | refine dk ?_ | fail)
  exact .f1 (.inl rfl) rfl rfl
theorem port1_T (s : Po) (id : Int) : Fun Tryz.prog 123 [.agg ((encPo s).map .fv), .fptr [.int .i64 id]] (.fv (.bool (s.id == id))) := by
  refine Fun.body tbl_ok Tryz.func123 rfl (by kernel_rfl) rfl rfl rfl ?_
  repeat' (first | refine X.loc ?_ | refine nx ?_ | refine cb ?_ ?_ | (refine cc ?_ ?_ <;> intro hcond) | refine rb ?_ | refine nd ?_ | refine dk ?_ | fail)
  exact .f1 (.inl rfl) rfl rfl
theorem place_T (c : Cf) (id : Int) (hl : c.ss.length < 9223372036854775807) : Fun Tryz.prog 93 [.agg ((encCf c).map .fv), .fv (.int .i64 id)] (.fv (.int .i64 (idxB (fun s => s.id == id) c.ss))) := by
  refine Fun.body tbl_ok Tryz.func93 rfl (by kernel_rfl) rfl rfl rfl ?_
  repeat' (first | (apply X.loE; (· exact aR); (· first | exact .callL rfl rfl rfl (indexSw_T c.ss _ [.fptr [.int .i64 id]] (fun s => s.id == id) hl (fun x _ => place1_T x id)) rfl | exact bl (indexSw_T c.ss _ [.fptr [.int .i64 id]] (fun s => s.id == id) hl (fun x _ => place1_T x id)))) | refine X.loc ?_ | refine nx ?_ | refine cb ?_ ?_ | (refine cc ?_ ?_ <;> intro hcond) | (apply X.gsE; (· exact aR); (· exact aV); (· exact aW); (· intro hc; first | exact .callG rfl rfl rfl (indexSw_T c.ss _ [.fptr [.int .i64 id]] (fun s => s.id == id) hl (fun x _ => place1_T x id)) rfl | exact bg (indexSw_T c.ss _ [.fptr [.int .i64 id]] (fun s => s.id == id) hl (fun x _ => place1_T x id))); (· exact aR)) | refine rb ?_ | refine nd ?_ | refine dk ?_ | fail)
  exact .f1 (.inl rfl) rfl rfl
theorem port_T (c : Cf) (id : Int) (hl : c.ps.length < 9223372036854775807) : Fun Tryz.prog 89 [.agg ((encCf c).map .fv), .fv (.int .i64 id)] (.fv (.int .i64 (idxB (fun s => s.id == id) c.ps))) := by
  refine Fun.body tbl_ok Tryz.func89 rfl (by kernel_rfl) rfl rfl rfl ?_
  repeat' (first | (apply X.loE; (· exact aR); (· first | exact .callL rfl rfl rfl (indexPo_T c.ps _ [.fptr [.int .i64 id]] (fun s => s.id == id) hl (fun x _ => port1_T x id)) rfl | exact bl (indexPo_T c.ps _ [.fptr [.int .i64 id]] (fun s => s.id == id) hl (fun x _ => port1_T x id)))) | refine X.loc ?_ | refine nx ?_ | refine cb ?_ ?_ | (refine cc ?_ ?_ <;> intro hcond) | (apply X.gsE; (· exact aR); (· exact aV); (· exact aW); (· intro hc; first | exact .callG rfl rfl rfl (indexPo_T c.ps _ [.fptr [.int .i64 id]] (fun s => s.id == id) hl (fun x _ => port1_T x id)) rfl | exact bg (indexPo_T c.ps _ [.fptr [.int .i64 id]] (fun s => s.id == id) hl (fun x _ => port1_T x id))); (· exact aR)) | refine rb ?_ | refine nd ?_ | refine dk ?_ | fail)
  exact .f1 (.inl rfl) rfl rfl
theorem tenantAt_at {ss : List Sw} {id : Int} {k : Nat} (h : idxB (fun s => s.id == id) ss = (k : Int)) : ∃ x, ss[k]? = some x ∧ tenantAt ss id = x.tenant := by
  obtain ⟨x, h1, _, h3⟩ := idxB_at _ _ _ h
  exact ⟨x, h1, by unfold tenantAt; rw [h3]⟩
theorem idxB_some {ss : List Sw} {id : Int} (h : ss.any (fun x => x.id == id) = true) : ∃ k : Nat, idxB (fun s => s.id == id) ss = (k : Int) := by
  have h1 := idxB_any (fun s : Sw => s.id == id) ss
  have h2 : ¬ idxB (fun s : Sw => s.id == id) ss < 0 := fun h3 => by rw [h1.1 h3] at h; cases h
  exact ⟨(idxB (fun s : Sw => s.id == id) ss).toNat, by omega⟩
theorem taken1_T (c : Cf) (p : Po) (tenant ip : Int) (hl : c.ss.length < 9223372036854775807) (hw : c.ss.any (fun x => x.id == p.sw) = true) : Fun Tryz.prog 126 [.agg ((encPo p).map .fv), .fptr [.int .i64 ip], .fptr (encCf c), .fptr [.int .i64 tenant]] (.fv (.bool (p.ip == ip && tenantAt c.ss p.sw == tenant))) := by
  obtain ⟨k, hk⟩ := idxB_some hw
  obtain ⟨x, hx, ht⟩ := tenantAt_at hk
  have hpl := place_T c p.sw hl
  rw [hk] at hpl
  refine Fun.body tbl_ok Tryz.func126 rfl (by kernel_rfl) rfl rfl rfl ?_
  repeat' (first | (apply X.loE; (· exact aR); (· first | (exact .eff (.idxS rfl rfl rfl encSw_len hx)) | exact .callL rfl rfl rfl (hpl) rfl | exact bl (hpl))) | refine X.loc ?_ | refine nx ?_ | refine cb ?_ ?_ | (refine cc ?_ ?_ <;> intro hcond) | (apply X.gsE; (· exact aR); (· exact aV); (· exact aW); (· intro hc; first | (exact .eff (.idxS rfl rfl rfl encSw_len hx)) | exact .callG rfl rfl rfl (hpl) rfl | exact bg (hpl)); (· exact aR)) | refine rb ?_ | refine nd ?_ | refine dk ?_ | fail)
  all_goals (refine .f1 (.inl rfl) rfl ?_; rw [ht])
end Go.Proofs.YtmidechdlbcepaaGreat