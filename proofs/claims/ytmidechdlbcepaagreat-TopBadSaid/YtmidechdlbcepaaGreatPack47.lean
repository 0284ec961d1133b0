import Derived.Test.YtmidechdlbcepaaGreatPack31
import Derived.Test.YtmidechdlbcepaaGreatPack46
import Derived.Test.YtmidechdlbcepaaGreatPack39
import Derived.Test.YtmidechdlbcepaaGreatPack36
import Derived.Test.YtmidechdlbcepaaGreatPack45
import Derived.Test.YtmidechdlbcepaaGreatPack33
set_option linter.unusedSimpArgs false
set_option linter.unusedVariables false
namespace Go.Proofs.YtmidechdlbcepaaGreat
open Go.RowKit
set_option maxRecDepth 100000
theorem led_dis2 {c : Cf} (hc : CfOk c) (ch id : Int) (f : Fr) : (ledF c ch id f).Pairwise fun a b => a.to ≠ b.to := by
  unfold ledF
  split
  · exact .nil
  · rename_i p hpo
    have hp := (poAt_mem hpo).1
    split
    · exact .nil
    · split
      · unfold askG
        split
        · exact List.pairwise_singleton _ _
        · split
          · exact List.pairwise_singleton _ _
          · exact .nil
      · unfold dataG
        split
        · exact .nil
        · have hto : ∀ q g, g ∈ goalQ c p f q → g.to = q.id := fun q g hg => by
            unfold goalQ at hg
            split at hg
            · simp at hg
            · rcases List.mem_append.1 hg with hg | hg
              · split at hg
                · obtain rfl := List.mem_singleton.1 hg; rfl
                · simp at hg
              · split at hg
                · obtain rfl := List.mem_singleton.1 hg; rfl
                · simp at hg
          have hpw : ∀ l : List Po, (∀ q ∈ l, q ∈ c.ps) → l.Pairwise (fun a b => a.id ≠ b.id) → (l.flatMap (goalQ c p f)).Pairwise fun a b => a.to ≠ b.to := by
            intro l
            induction l with
            | nil => intro _ _; exact .nil
            | cons q l ih =>
              intro hl hd
              obtain ⟨h1, h2⟩ := List.pairwise_cons.1 hd
              rw [List.flatMap_cons, List.pairwise_append]
              refine ⟨?_, ih (fun x hx => hl x (by simp [hx])) h2, fun a ha b hb => ?_⟩
              · have hs := hc.swIn hp
                have hsr := (hc.sr _ hs.1).1
                have hqr := (hc.pg q (hl q (by simp))).1.2.1
                unfold goalQ
                split
                · exact .nil
                · by_cases e1 : q.sw = (swAt c.ss p.sw).id ∧ q.id ≠ p.id ∧ (f.dst = 65535 ∨ f.dst = q.mac)
                  · rw [if_pos e1, if_neg (fun h => by rcases e1.2.2 with h3 | h3 <;> omega)]
                    exact List.pairwise_singleton _ _
                  · rw [if_neg e1, List.nil_append]
                    split
                    · exact List.pairwise_singleton _ _
                    · exact .nil
              · obtain ⟨x, hx, hb⟩ := List.mem_flatMap.1 hb
                rw [hto q a ha, hto x b hb]
                exact h1 x hx
          exact hpw c.ps (fun _ h => h) (hc.pd.imp fun h => h.1)
def tenN (c : Cf) (id : Int) : Int := match poAt c id with
  | some q => (swAt c.ss q.sw).tenant
  | none => 0
theorem led_to {c : Cf} (hc : CfOk c) {ch id : Int} {f : Fr} {g : Gl} (hg : g ∈ ledF c ch id f) : ∃ p q, poAt c id = some p ∧ poAt c g.to = some q ∧ (swAt c.ss q.sw).tenant = (swAt c.ss p.sw).tenant := by
  unfold ledF at hg
  cases hpo : poAt c id with
  | none => rw [hpo] at hg; simp at hg
  | some p =>
    rw [hpo] at hg
    dsimp only at hg
    obtain ⟨hp, hid⟩ := poAt_mem hpo
    refine ⟨p, ?_⟩
    by_cases hbad : p.ch ≠ ch ∨ f.src ≠ p.mac ∨ f.ipSrc ≠ p.ip
    · rw [if_pos hbad] at hg
      simp at hg
    rw [if_neg hbad] at hg
    by_cases hk : f.kind = 1
    · rw [if_pos hk] at hg
      have hto : g.to = p.id := by
        unfold askG at hg
        split at hg
        · obtain rfl := List.mem_singleton.1 hg
          rfl
        · split at hg
          · obtain rfl := List.mem_singleton.1 hg
            rfl
          · simp at hg
      exact ⟨p, rfl, by rw [hto]; exact poAt_is hc hp, rfl⟩
    · rw [if_neg hk] at hg
      unfold dataG at hg
      split at hg
      · simp at hg
      · obtain ⟨q, hq, hg⟩ := List.mem_flatMap.1 hg
        have hx : g.to = q.id ∧ (swAt c.ss q.sw).tenant = (swAt c.ss p.sw).tenant := by
          unfold goalQ at hg
          split at hg
          · simp at hg
          · rcases List.mem_append.1 hg with hg | hg
            · split at hg
              · rename_i e
                obtain rfl := List.mem_singleton.1 hg
                refine ⟨rfl, ?_⟩
                rw [e.1, (hc.swIn hp).2]
              · simp at hg
            · split at hg
              · rename_i e
                obtain rfl := List.mem_singleton.1 hg
                exact ⟨rfl, e.2.2.2.1⟩
              · simp at hg
        exact ⟨q, rfl, by rw [hx.1]; exact poAt_is hc hq, hx.2⟩
theorem led_ten {c : Cf} (hc : CfOk c) {ch id : Int} {f : Fr} {g : Gl} (hg : g ∈ ledF c ch id f) : tenN c g.to = tenN c id := by
  obtain ⟨p, q, h1, h2, h3⟩ := led_to hc hg
  unfold tenN
  rw [h1, h2]
  exact h3
theorem sent_led {K : Kn} {ch id : Int} {f : Fr} {x : Ar} (hx : x ∈ sentOfF K ch id f) : ∃ g ∈ ledF (cfAt K ch) ch id f, x ∈ arrG K ch g := by
  unfold sentOfF at hx
  obtain ⟨n, _, hx⟩ := List.mem_flatMap.1 hx
  obtain ⟨g, hg, hx⟩ := List.mem_flatMap.1 hx
  split at hx
  · exact ⟨g, hg, hx⟩
  · simp at hx
theorem del_ten {c : Cf} (hc : CfOk c) {id : Int} {f : Fr} {x : Ar} (hx : x ∈ delR c id f) : tenN c x.port = tenN c id := by
  unfold delR at hx
  rw [if_neg (by rw [cfMay_iff.2 hc]; simp)] at hx
  cases hpo : poAt c id with
  | none => rw [hpo] at hx; simp at hx
  | some q =>
    rw [hpo] at hx
    dsimp only at hx
    split at hx
    · simp at hx
    · split at hx
      · simp at hx
      · obtain ⟨g, hg, hx⟩ := sent_led hx
        rw [arrG_port hx]
        have hq := (hc.pg q (poAt_mem hpo).1).1
        unfold PoR at hq
        have e : cfAt (K6 c) q.ch = c := by
          obtain ⟨n, hn⟩ := Int.eq_ofNat_of_zero_le (show 0 ≤ q.ch by omega)
          rw [hn]
          match n, (show n < 6 by omega) with
          | 0, _ => rfl
          | 1, _ => rfl
          | 2, _ => rfl
          | 3, _ => rfl
          | 4, _ => rfl
          | 5, _ => rfl
        rw [e] at hg
        exact led_ten hc hg
theorem fm_single {α β : Type} {F : α → List β} : ∀ {l : List α}, (∀ a ∈ l, (F a).length ≤ 1) → l.Pairwise (fun a b => F a = [] ∨ F b = []) → (l.flatMap F).length ≤ 1
  | [], _, _ => by simp
  | a :: l, h1, h2 => by
    obtain ⟨h3, h4⟩ := List.pairwise_cons.1 h2
    rw [List.flatMap_cons, List.length_append]
    have ih := fm_single (fun x hx => h1 x (by simp [hx])) h4
    by_cases e : F a = []
    · rw [e]
      simpa using ih
    · have : l.flatMap F = [] := by
        rw [List.flatMap_eq_nil_iff]
        intro b hb
        rcases h3 b hb with h | h
        · exact absurd h e
        · exact h
      rw [this]
      simpa using h1 a (by simp)
theorem pw_one : ∀ {X : List Ar}, X.length ≤ 1 → X.Pairwise fun a b => a.port < b.port
  | [], _ => .nil
  | [a], _ => List.pairwise_singleton _ _
  | a :: b :: l, h => by simp at h
theorem sent_pw {K : Kn} (hK : KnOk K) (ch id : Int) (f : Fr) : (sentOfF K ch id f).Pairwise fun a b => a.port < b.port := by
  have hmem : ∀ n : Nat, ∀ x, x ∈ (ledF (cfAt K ch) ch id f).flatMap (fun g => if g.to = (n : Int) then arrG K ch g else []) → x.port = (n : Int) := fun n x hx => by
    obtain ⟨g, hg, hx⟩ := List.mem_flatMap.1 hx
    split at hx
    · rename_i e
      rw [arrG_port hx, e]
    · simp at hx
  unfold sentOfF
  rw [List.pairwise_flatMap]
  refine ⟨fun n _ => ?_, ?_⟩
  · have hl : ((ledF (cfAt K ch) ch id f).flatMap fun g => if g.to = (n : Int) then arrG K ch g else []).length ≤ 1 := by
      refine fm_single (fun g _ => arrN_len K ch n g) ((led_dis2 (hK.cf ch) ch id f).imp fun {a b} h => ?_)
      by_cases e : a.to = (n : Int)
      · right
        rw [if_neg]
        omega
      · left
        rw [if_neg e]
    exact pw_one hl
  · refine List.pairwise_lt_range.imp fun {a b} hab x hx y hy => ?_
    rw [hmem a x hx, hmem b y hy]
    omega
theorem del_pw {c : Cf} (id : Int) (f : Fr) : (delR c id f).Pairwise fun a b => a.port < b.port := by
  unfold delR
  cases hm : cfMay c with
  | false => rw [if_pos rfl]; exact .nil
  | true =>
    rw [if_neg (by decide)]
    split
    · exact .nil
    · split
      · exact .nil
      · split
        · exact .nil
        · exact sent_pw (K6_ok (cfMay_iff.1 hm)) _ _ _
theorem del_le (c : Cf) (id : Int) (f : Fr) : (delR c id f).length ≤ 80000 := by
  unfold delR
  cases hm : cfMay c with
  | false => simp
  | true =>
    rw [if_neg (by decide)]
    split
    · simp
    · split
      · simp
      · split
        · simp
        · exact sentOfF_len (K6_ok (cfMay_iff.1 hm)) _ _ _
theorem del_err {c : Cf} (hc : CfOk c) {id : Int} {f : Fr} (hff : c.ps ≠ [] → frameFault f = 0) : delE c id f = 0 ∨ (delE c id f = 6 ∧ delR c id f = []) := by
  unfold delE delR
  rw [if_neg (by rw [cfMay_iff.2 hc]; simp), if_neg (by rw [cfMay_iff.2 hc]; simp)]
  cases hpo : poAt c id with
  | none => exact .inr ⟨rfl, rfl⟩
  | some q =>
    dsimp only
    by_cases h0 : q.ch < 0
    · rw [if_pos h0, if_pos h0]
      exact .inr ⟨rfl, rfl⟩
    · rw [if_neg h0]
      exact .inl (hff fun e => by have := (poAt_mem hpo).1; rw [e] at this; simp at this)
theorem LEff.callNG {P : Program} {T : Tbl} {t : List (Nat × AV)} {H : Own} {d : Nat} {r : AV} {f : Operand} {args : Array Operand} {ts : Array TypeId} {fid : FuncId} {cs as0 xs : List AV} (h1 : evG t f = some (.fn fid cs)) (h2 : evGL t args.toList = some as0) (h4 : Fun P fid xs r) (h3 : AV.LeL (as0 ++ cs) xs) (h5 : r.flat = true) :
    LEff P T (fun x => (St.ev ⟨t, H⟩ x).strip) H d (.call { callee := .value f, args := args, argTypes := ts }) r [] :=
  .call (evG_ev (st := ⟨t, H⟩) h1) (by rw [evGL_ev (st := ⟨t, H⟩) h2]; exact h3) h4 h5
theorem Eff.strHE {T : Tbl} {ρ : Operand → AV} {H : Own} {d t : Nat} {x hi : Operand} {s : ByteArray} (h : Nat) {k' : IntKind} {v : Int} (h1 : ρ x = .fv (.str s)) (h2 : ρ hi = .fv (.int k' v)) (hv : v = h) (h3 : lk T.str t = some ()) (h4 : h ≤ s.size) : Eff T ρ H d (.slice t x none (some hi) none) (.fv (.str (sfx s 0 h))) [] := by
  subst hv
  exact .strH h1 h2 h3 h4
def frameQ (r : Rq) (s : ByteArray) : Fr := ⟨pick r.a 65536, pick r.b 65536, 1 + pick r.kind 3, pick r.c 65536, pick (r.a.tdiv 3) 65536, if 1 + pick r.kind 3 = 3 then pick r.b 256 else 0, if 1 + pick r.kind 3 = 3 then pick (r.c.tdiv 5) 65536 else 0, if 1 + pick r.kind 3 = 3 then sfx s 0 (min s.size 40) else ⟨#[]⟩⟩
theorem frameQ_ok (r : Rq) (s : ByteArray) : frameFault (frameQ r s) = 0 := by
  have h0 := pick_le (n := r.kind) (m := 3) (by omega)
  have h1 := pick_le (n := r.a) (m := 65536) (by omega)
  have h2 := pick_le (n := r.b) (m := 65536) (by omega)
  have h3 := pick_le (n := r.c) (m := 65536) (by omega)
  have h4 := pick_le (n := r.a.tdiv 3) (m := 65536) (by omega)
  have h5 := pick_le (n := r.b) (m := 256) (by omega)
  have h6 := pick_le (n := r.c.tdiv 5) (m := 65536) (by omega)
  have hs : (sfx s 0 (min s.size 40)).size ≤ 40 := by
    unfold sfx
    rw [ByteArray.size_extract]
    omega
  unfold frameFault frameQ
  simp only [word_not]
  by_cases hk : 1 + pick r.kind 3 = 3
  · simp only [hk, if_true]
    rw [if_neg (by omega), if_neg (by omega), if_neg (by omega), if_neg (by omega)]
  · simp only [hk, if_false]
    rw [if_neg (by omega), if_neg (by omega), if_neg (by show ¬ 40 < 0; omega), if_neg]
    rintro ⟨_, h | h | h⟩
    · exact h rfl
    · exact h rfl
    · exact h rfl
set_option maxHeartbeats 4000000 in
theorem frameQ_T (r : Rq) (s : ByteArray) (ho : r.Ok) : Fun Tryz.prog 56 [.agg ((encRq r).map .fv), .fv (.str s)] (.agg ((encFr (frameQ r s)).map .fv)) := by
  obtain ⟨o1, o2, o3, o4⟩ := ho
  have n1 := o1
  have n2 := o2
  have n3 := o3
  have n4 := o4
  unfold N64 at n1 n2 n3 n4
  have qa3 := quoT_bd o2 (m := 3) (by omega)
  have qc5 := quoT_bd o4 (m := 5) (by omega)
  have h0 := pick_le (n := r.kind) (m := 3) (by omega)
  have hck := picked_T r.kind 3 n1.1 n1.2 (by omega)
  have e0 : frameQ r s = ⟨pick r.a 65536, pick r.b 65536, 1 + pick r.kind 3, pick r.c 65536, pick (r.a.tdiv 3) 65536, if 1 + pick r.kind 3 = 3 then pick r.b 256 else 0, if 1 + pick r.kind 3 = 3 then pick (r.c.tdiv 5) 65536 else 0, if 1 + pick r.kind 3 = 3 then sfx s 0 (min s.size 40) else ⟨#[]⟩⟩ := rfl
  have hmin : (if (40 : Int) < (s.size : Int) then (40 : Int) else (s.size : Int)) = ((min s.size 40 : Nat) : Int) := by split <;> omega
  generalize frameQ r s = F at *
  generalize pick r.kind 3 = k at *
  refine Fun.body tbl_ok Tryz.func56 rfl (by kernel_rfl) rfl rfl rfl ?_
  by_cases hk : 1 + k = 3
  · rw [if_pos hk, if_pos hk, if_pos hk] at e0
    subst e0
    repeat' (first | (apply X.loE; (· exact aR); (· first | (refine .eff (.quoT rfl rfl ?_ ?_) <;> first | assumption | omega) | (exact .eff (.strHE (min s.size 40) rfl rfl hmin rfl (by omega))) | exact .callL rfl rfl rfl (by first | exact hck | exact (picked_T _ _ (by omega) (by omega) (by omega))) rfl | exact bl (hck) | exact bl ((picked_T _ _ (by omega) (by omega) (by omega))))) | refine X.loc ?_ | refine nx ?_ | refine X.cdT ?_ | refine X.cdF ?_ | refine cb ?_ ?_ | (refine cc ?_ ?_ <;> intro hcond) | (apply X.gsE; (· exact aR); (· exact aV); (· exact aW); (· intro hc; first | (refine .eff (.quoT rfl rfl ?_ ?_) <;> first | assumption | omega) | (exact .eff (.strHE (min s.size 40) rfl rfl hmin rfl (by omega))) | exact .callG rfl rfl rfl (by first | exact hck | exact (picked_T _ _ (by omega) (by omega) (by omega))) rfl | exact bg (hck) | exact bg ((picked_T _ _ (by omega) (by omega) (by omega)))); (· exact aR)) | refine rb ?_ | refine nd ?_ | refine dk ?_ | fail)
    exact .fun (.inl rfl) rfl rfl
  · rw [if_neg hk, if_neg hk, if_neg hk] at e0
    subst e0
    repeat' (first | (apply X.loE; (· exact aR); (· first | (refine .eff (.quoT rfl rfl ?_ ?_) <;> first | assumption | omega) | exact .callL rfl rfl rfl (by first | exact hck | exact (picked_T _ _ (by omega) (by omega) (by omega))) rfl | exact bl (hck) | exact bl ((picked_T _ _ (by omega) (by omega) (by omega))))) | refine X.loc ?_ | refine nx ?_ | refine X.cdT ?_ | refine X.cdF ?_ | refine cb ?_ ?_ | (refine cc ?_ ?_ <;> intro hcond) | (apply X.gsE; (· exact aR); (· exact aV); (· exact aW); (· intro hc; first | (refine .eff (.quoT rfl rfl ?_ ?_) <;> first | assumption | omega) | exact .callG rfl rfl rfl (by first | exact hck | exact (picked_T _ _ (by omega) (by omega) (by omega))) rfl | exact bg (hck) | exact bg ((picked_T _ _ (by omega) (by omega) (by omega)))); (· exact aR)) | refine rb ?_ | refine nd ?_ | refine dk ?_ | fail)
    exact .fun (.inl rfl) rfl rfl
theorem room_nil : Room [] := ⟨fun f hf => by (cases hf), by simp⟩
theorem flN_fit : flN.Fit := by unfold Fl.Fit flN; simp
theorem patch_one : patchF [] [flN] [] = [flN] := by
  unfold patchF
  rw [left_none, List.nil_append]
  exact sortedF_id (List.pairwise_singleton _ _)
set_option maxHeartbeats 4000000 in
theorem frameTells_T : Fun Tryz.prog 28 [] (.fv (.bool true)) := by
  have c1 := frameQ_T ⟨0, 0, 0, 0⟩ ⟨#[97]⟩ ⟨by unfold N64; decide, by unfold N64; decide, by unfold N64; decide, by unfold N64; decide⟩
  have hok := frameQ_ok ⟨0, 0, 0, 0⟩ ⟨#[97]⟩
  generalize frameQ ⟨0, 0, 0, 0⟩ ⟨#[97]⟩ = F at *
  have c2 := encodeF_T F
  have hl : (encF F).length = 16 + F.body.size := by rw [encF, if_neg (by omega), bytesF_len]
  rw [hok] at c2
  generalize encF F = B at *
  have c3 := patchF_T [] [flN] [] room_nil room_nil (fun f hf => by obtain rfl := List.mem_singleton.1 hf; exact flN_fit) (by simp)
  rw [patch_one] at c3
  refine Fun.body tbl_ok Tryz.func28 rfl (by kernel_rfl) rfl rfl rfl ?_
  repeat' (first | (apply X.loE; (· exact aR); (· first | exact .eff (.bsliceFS rfl rfl rfl rfl rfl rfl) | (apply LEff.callNG; (· rfl); (· rfl); (· exact c3); (· exact aN); (· rfl)) | exact .callL rfl rfl rfl (by first | exact c1 | exact c2) rfl | exact bl (c1) | exact bl (c2))) | refine X.loc ?_ | refine nx ?_ | refine X.cdT ?_ | refine X.cdF ?_ | refine cb ?_ ?_ | (refine cc ?_ ?_ <;> intro hcond) | (apply X.gsE; (· exact aR); (· exact aV); (· exact aW); (· intro hc; first | exact .eff (.bsliceFS rfl rfl rfl rfl rfl rfl) | (apply LEff.callNG; (· rfl); (· rfl); (· exact c3); (· exact aN); (· rfl)) | exact .callG rfl rfl rfl (by first | exact c1 | exact c2) rfl | exact bg (c1) | exact bg (c2)); (· exact aR)) | refine rb ?_ | refine nd ?_ | refine dk ?_ | fail)
  refine .f1 (.inl rfl) rfl ?_
  congr 1
  have : decide ((B.length : Int) > 4) = true := decide_eq_true (by omega)
  simp [this]
theorem Picked_T (n m : Int) (h1 : -9223372036854775808 ≤ n) (h2 : n ≤ 9223372036854775807) (hm : 0 < m) : Fun Tryz.prog 33 [.fv (.int .i64 n), .fv (.int .i64 m)] (.fv (.int .i64 (pick n m))) := by
  refine Fun.body tbl_ok Tryz.func33 rfl (by kernel_rfl) rfl rfl rfl ?_
  repeat' (first | (apply X.loE; (· exact aR); (· first | exact .callL rfl rfl rfl ((picked_T n m h1 h2 hm)) rfl | exact bl ((picked_T n m h1 h2 hm)))) | refine X.loc ?_ | refine nx ?_ | refine X.cdT ?_ | refine X.cdF ?_ | refine cb ?_ ?_ | (refine cc ?_ ?_ <;> intro hcond) | (apply X.gsE; (· exact aR); (· exact aV); (· exact aW); (· intro hc; first | exact .callG rfl rfl rfl ((picked_T n m h1 h2 hm)) rfl | exact bg ((picked_T n m h1 h2 hm))); (· exact aR)) | refine rb ?_ | refine nd ?_ | refine dk ?_ | fail)
  exact .f1 (.inl rfl) rfl rfl
def hello : ByteArray := ⟨#[104, 101, 108, 108, 111]⟩
theorem fr_data {d s a b t o : Int} {z : ByteArray} (h0 : 0 ≤ d ∧ d ≤ 65535) (h1 : 0 ≤ s ∧ s ≤ 65535) (h2 : 0 ≤ a ∧ a ≤ 65535) (h3 : 0 ≤ b ∧ b ≤ 65535) (h4 : 0 ≤ t ∧ t ≤ 255) (h5 : 0 ≤ o ∧ o ≤ 65535) (hz : z.size ≤ 40) : frameFault ⟨d, s, 3, a, b, t, o, z⟩ = 0 := by
  unfold frameFault
  simp only [word_not]
  rw [if_neg (by omega), if_neg (by omega), if_neg (by omega), if_neg (by omega)]
theorem fr_ask {d s a b : Int} (h0 : 0 ≤ d ∧ d ≤ 65535) (h1 : 0 ≤ s ∧ s ≤ 65535) (h2 : 0 ≤ a ∧ a ≤ 65535) (h3 : 0 ≤ b ∧ b ≤ 65535) : frameFault ⟨d, s, 1, a, b, 0, 0, ⟨#[]⟩⟩ = 0 := by
  unfold frameFault
  simp only [word_not]
  rw [if_neg (by omega), if_neg (by omega), if_neg (by show ¬ 40 < 0; omega), if_neg]
  rintro ⟨_, h | h | h⟩
  · exact h rfl
  · exact h rfl
  · exact h rfl
def frK (c : Cf) (r : Rq) : Int × Fr := match c.ps[(pick r.a c.ps.length).toNat]?, c.ps[(pick r.b c.ps.length).toNat]? with
  | some p, some q =>
    (p.id, if pick r.kind 10 = 0 then ⟨65535, p.mac, 1, p.ip, q.ip, 0, 0, ⟨#[]⟩⟩
      else if pick r.kind 10 = 1 then ⟨65535, p.mac, 1, p.ip, 200 + pick r.b 2, 0, 0, ⟨#[]⟩⟩
      else if pick r.kind 10 = 2 then ⟨65535, p.mac, 3, p.ip, q.ip, pick r.c 4, pick (r.c.tdiv 4) 4, hello⟩
      else if pick r.kind 10 ≤ 6 then ⟨60000 + p.sw, p.mac, 3, p.ip, q.ip, pick r.c 4 + pick r.c 2, pick (r.c.tdiv 4) 4, hello⟩
      else if pick r.kind 10 = 7 then ⟨q.mac, q.mac, 3, p.ip, q.ip, pick r.c 4, pick (r.c.tdiv 4) 4, hello⟩
      else ⟨q.mac, p.mac, 3, p.ip, q.ip, pick r.c 4, pick (r.c.tdiv 4) 4, hello⟩)
  | _, _ => (1, ⟨0, 0, 3, 0, 0, 2, 0, ⟨#[]⟩⟩)
set_option maxHeartbeats 16000000 in
theorem frameE_T (c : Cf) (hc : CfOk c) (r : Rq) (ho : r.Ok) : ∃ (id : Int) (f : Fr), frK c r = (id, f) ∧ Fun Tryz.prog 30 [.agg ((encCf c).map .fv), .agg ((encRq r).map .fv)] (.tup [.fv (.int .i64 id), .agg ((encFr f).map .fv)]) ∧ (c.ps ≠ [] → frameFault f = 0) := by
  have hfr := frK.eq_1 c r
  have hpl := hc.pl
  obtain ⟨o1, o2, o3, o4⟩ := ho
  have n1 := o1
  have n2 := o2
  have n3 := o3
  have n4 := o4
  unfold N64 at n1 n2 n3 n4
  cases hps : c.ps with
  | nil =>
    have hl0 : c.ps.length = 0 := by rw [hps]; rfl
    refine ⟨1, ⟨0, 0, 3, 0, 0, 2, 0, ⟨#[]⟩⟩, by rw [hfr, hps]; rfl, ?_, fun h => absurd rfl h⟩
    refine Fun.body tbl_ok Tryz.func30 rfl (by kernel_rfl) rfl rfl rfl ?_
    repeat' (first | refine X.loc ?_ | refine nx ?_ | refine X.cdT ?_ | refine X.cdF ?_ | refine cb ?_ ?_ | (refine cc ?_ ?_ <;> intro hcond) | refine rb ?_ | refine nd ?_ | refine dk ?_ | fail)
    refine .le (s' := ⟨[(4, .fv (.int .i64 1)), (5, .optr 5 0)], [(5, .box 28 ((encFr ⟨0, 0, 3, 0, 0, 2, 0, ⟨#[]⟩⟩).map .fv))]⟩) ?_ (.fun (.inl rfl) rfl rfl)
    exact tq [] []
  | cons p0 l0 =>
    have hlp : 0 < c.ps.length := by rw [hps]; simp
    clear hps
    have k1 := picked_T r.a c.ps.length n2.1 n2.2 (by omega)
    have k2 := picked_T r.b c.ps.length n3.1 n3.2 (by omega)
    have g1 := pick_le (n := r.a) (m := (c.ps.length : Int)) (by omega)
    have g2 := pick_le (n := r.b) (m := (c.ps.length : Int)) (by omega)
    generalize pick r.a c.ps.length = i at *
    generalize pick r.b c.ps.length = j at *
    obtain ⟨i, rfl⟩ := Int.eq_ofNat_of_zero_le g1.1
    obtain ⟨j, rfl⟩ := Int.eq_ofNat_of_zero_le g2.1
    obtain ⟨p, hp⟩ : ∃ p, c.ps[i]? = some p := ⟨_, List.getElem?_eq_getElem (by omega)⟩
    obtain ⟨q, hq⟩ : ∃ q, c.ps[j]? = some q := ⟨_, List.getElem?_eq_getElem (by omega)⟩
    have hpr := (hc.pg p (List.mem_of_getElem? hp)).1
    have hqr := (hc.pg q (List.mem_of_getElem? hq)).1
    have hpi := hc.swIn (List.mem_of_getElem? hp)
    have hps := hc.sr _ hpi.1
    have hsw : 1 ≤ p.sw ∧ p.sw ≤ 500 := by
      unfold SwR at hps
      rw [hpi.2] at hps
      exact hps.1
    unfold PoR at hpr hqr
    have qc4 := quoT_bd o4 (m := 4) (by omega)
    have k3 := picked_T r.c 4 n4.1 n4.2 (by omega)
    have k4 := picked_T (r.c.tdiv 4) 4 (by omega) (by omega) (by omega)
    have k5 := picked_T r.kind 10 n1.1 n1.2 (by omega)
    have k6 := picked_T r.b 2 n3.1 n3.2 (by omega)
    have k7 := picked_T r.c 2 n4.1 n4.2 (by omega)
    have g3 := pick_le (n := r.c) (m := 4) (by omega)
    have g4 := pick_le (n := r.c.tdiv 4) (m := 4) (by omega)
    have g5 := pick_le (n := r.kind) (m := 10) (by omega)
    have g6 := pick_le (n := r.b) (m := 2) (by omega)
    have g7 := pick_le (n := r.c) (m := 2) (by omega)
    rw [Int.toNat_natCast, Int.toNat_natCast, hp, hq] at hfr
    dsimp only at hfr
    have hello40 : hello.size ≤ 40 := by decide
    generalize pick r.c 4 = t at *
    generalize pick (r.c.tdiv 4) 4 = o at *
    generalize pick r.kind 10 = v at *
    generalize pick r.b 2 = b2 at *
    generalize pick r.c 2 = c2 at *
    by_cases v0 : v = 0
    · refine ⟨p.id, ⟨65535, p.mac, 1, p.ip, q.ip, 0, 0, ⟨#[]⟩⟩, by rw [hfr, if_pos v0], ?_, fun _ => fr_ask (by omega) (by omega) (by omega) (by omega)⟩
      refine Fun.body tbl_ok Tryz.func30 rfl (by kernel_rfl) rfl rfl rfl ?_
      repeat' (first | (apply X.loE; (· exact aR); (· first | (exact .eff (.idxS rfl rfl rfl encPo_len hp)) | (exact .eff (.idxS rfl rfl rfl encPo_len hq)) | (refine .eff (.quoT rfl rfl ?_ ?_) <;> first | assumption | omega) | exact .callL rfl rfl rfl (by first | exact k1 | exact k2 | exact k3 | exact k4 | exact k5 | exact k6 | exact k7) rfl | exact bl (k1) | exact bl (k2) | exact bl (k3) | exact bl (k4) | exact bl (k5) | exact bl (k6) | exact bl (k7))) | refine X.loc ?_ | refine nx ?_ | refine X.cdT ?_ | refine X.cdF ?_ | refine cb ?_ ?_ | (refine cc ?_ ?_ <;> intro hcond) | (apply X.gsE; (· exact aR); (· exact aV); (· exact aW); (· intro hc; first | (exact .eff (.idxS rfl rfl rfl encPo_len hp)) | (exact .eff (.idxS rfl rfl rfl encPo_len hq)) | (refine .eff (.quoT rfl rfl ?_ ?_) <;> first | assumption | omega) | exact .callG rfl rfl rfl (by first | exact k1 | exact k2 | exact k3 | exact k4 | exact k5 | exact k6 | exact k7) rfl | exact bg (k1) | exact bg (k2) | exact bg (k3) | exact bg (k4) | exact bg (k5) | exact bg (k6) | exact bg (k7)); (· exact aR)) | refine rb ?_ | refine nd ?_ | refine dk ?_ | fail)
      refine .le (s' := ⟨[(4, .fv (.int .i64 p.id)), (5, .optr 5 0)], [(5, .box 28 ((encFr ⟨65535, p.mac, 1, p.ip, q.ip, 0, 0, ⟨#[]⟩⟩).map .fv))]⟩) ?_ (.fun (.inl rfl) rfl rfl)
      exact tq [] []
    by_cases v1 : v = 1
    · refine ⟨p.id, ⟨65535, p.mac, 1, p.ip, 200 + b2, 0, 0, ⟨#[]⟩⟩, by rw [hfr, if_neg v0, if_pos v1], ?_, fun _ => fr_ask (by omega) (by omega) (by omega) (by omega)⟩
      refine Fun.body tbl_ok Tryz.func30 rfl (by kernel_rfl) rfl rfl rfl ?_
      repeat' (first | (apply X.loE; (· exact aR); (· first | (exact .eff (.idxS rfl rfl rfl encPo_len hp)) | (exact .eff (.idxS rfl rfl rfl encPo_len hq)) | (refine .eff (.quoT rfl rfl ?_ ?_) <;> first | assumption | omega) | exact .callL rfl rfl rfl (by first | exact k1 | exact k2 | exact k3 | exact k4 | exact k5 | exact k6 | exact k7) rfl | exact bl (k1) | exact bl (k2) | exact bl (k3) | exact bl (k4) | exact bl (k5) | exact bl (k6) | exact bl (k7))) | refine X.loc ?_ | refine nx ?_ | refine X.cdT ?_ | refine X.cdF ?_ | refine cb ?_ ?_ | (refine cc ?_ ?_ <;> intro hcond) | (apply X.gsE; (· exact aR); (· exact aV); (· exact aW); (· intro hc; first | (exact .eff (.idxS rfl rfl rfl encPo_len hp)) | (exact .eff (.idxS rfl rfl rfl encPo_len hq)) | (refine .eff (.quoT rfl rfl ?_ ?_) <;> first | assumption | omega) | exact .callG rfl rfl rfl (by first | exact k1 | exact k2 | exact k3 | exact k4 | exact k5 | exact k6 | exact k7) rfl | exact bg (k1) | exact bg (k2) | exact bg (k3) | exact bg (k4) | exact bg (k5) | exact bg (k6) | exact bg (k7)); (· exact aR)) | refine rb ?_ | refine nd ?_ | refine dk ?_ | fail)
      refine .le (s' := ⟨[(4, .fv (.int .i64 p.id)), (5, .optr 5 0)], [(5, .box 28 ((encFr ⟨65535, p.mac, 1, p.ip, 200 + b2, 0, 0, ⟨#[]⟩⟩).map .fv))]⟩) ?_ (.fun (.inl rfl) rfl rfl)
      exact tq [] []
    by_cases v2 : v = 2
    · refine ⟨p.id, ⟨65535, p.mac, 3, p.ip, q.ip, t, o, hello⟩, by rw [hfr, if_neg v0, if_neg v1, if_pos v2], ?_, fun _ => fr_data (by omega) (by omega) (by omega) (by omega) (by omega) (by omega) hello40⟩
      refine Fun.body tbl_ok Tryz.func30 rfl (by kernel_rfl) rfl rfl rfl ?_
      repeat' (first | (apply X.loE; (· exact aR); (· first | (exact .eff (.idxS rfl rfl rfl encPo_len hp)) | (exact .eff (.idxS rfl rfl rfl encPo_len hq)) | (refine .eff (.quoT rfl rfl ?_ ?_) <;> first | assumption | omega) | exact .callL rfl rfl rfl (by first | exact k1 | exact k2 | exact k3 | exact k4 | exact k5 | exact k6 | exact k7) rfl | exact bl (k1) | exact bl (k2) | exact bl (k3) | exact bl (k4) | exact bl (k5) | exact bl (k6) | exact bl (k7))) | refine X.loc ?_ | refine nx ?_ | refine X.cdT ?_ | refine X.cdF ?_ | refine cb ?_ ?_ | (refine cc ?_ ?_ <;> intro hcond) | (apply X.gsE; (· exact aR); (· exact aV); (· exact aW); (· intro hc; first | (exact .eff (.idxS rfl rfl rfl encPo_len hp)) | (exact .eff (.idxS rfl rfl rfl encPo_len hq)) | (refine .eff (.quoT rfl rfl ?_ ?_) <;> first | assumption | omega) | exact .callG rfl rfl rfl (by first | exact k1 | exact k2 | exact k3 | exact k4 | exact k5 | exact k6 | exact k7) rfl | exact bg (k1) | exact bg (k2) | exact bg (k3) | exact bg (k4) | exact bg (k5) | exact bg (k6) | exact bg (k7)); (· exact aR)) | refine rb ?_ | refine nd ?_ | refine dk ?_ | fail)
      refine .le (s' := ⟨[(4, .fv (.int .i64 p.id)), (5, .optr 5 0)], [(5, .box 28 ((encFr ⟨65535, p.mac, 3, p.ip, q.ip, t, o, hello⟩).map .fv))]⟩) ?_ (.fun (.inl rfl) rfl rfl)
      exact tq [] []
    by_cases v6 : v ≤ 6
    · refine ⟨p.id, ⟨60000 + p.sw, p.mac, 3, p.ip, q.ip, t + c2, o, hello⟩, by rw [hfr, if_neg v0, if_neg v1, if_neg v2, if_pos v6], ?_, fun _ => fr_data (by omega) (by omega) (by omega) (by omega) (by omega) (by omega) hello40⟩
      refine Fun.body tbl_ok Tryz.func30 rfl (by kernel_rfl) rfl rfl rfl ?_
      by_cases v3 : v = 3
      · skip
        repeat' (first | (apply X.loE; (· exact aR); (· first | (exact .eff (.idxS rfl rfl rfl encPo_len hp)) | (exact .eff (.idxS rfl rfl rfl encPo_len hq)) | (refine .eff (.quoT rfl rfl ?_ ?_) <;> first | assumption | omega) | exact .callL rfl rfl rfl (by first | exact k1 | exact k2 | exact k3 | exact k4 | exact k5 | exact k6 | exact k7) rfl | exact bl (k1) | exact bl (k2) | exact bl (k3) | exact bl (k4) | exact bl (k5) | exact bl (k6) | exact bl (k7))) | refine X.loc ?_ | refine nx ?_ | refine X.cdT ?_ | refine X.cdF ?_ | refine cb ?_ ?_ | (refine cc ?_ ?_ <;> intro hcond) | (apply X.gsE; (· exact aR); (· exact aV); (· exact aW); (· intro hc; first | (exact .eff (.idxS rfl rfl rfl encPo_len hp)) | (exact .eff (.idxS rfl rfl rfl encPo_len hq)) | (refine .eff (.quoT rfl rfl ?_ ?_) <;> first | assumption | omega) | exact .callG rfl rfl rfl (by first | exact k1 | exact k2 | exact k3 | exact k4 | exact k5 | exact k6 | exact k7) rfl | exact bg (k1) | exact bg (k2) | exact bg (k3) | exact bg (k4) | exact bg (k5) | exact bg (k6) | exact bg (k7)); (· exact aR)) | refine rb ?_ | refine nd ?_ | refine dk ?_ | fail)
        refine .le (s' := ⟨[(4, .fv (.int .i64 p.id)), (5, .optr 5 0)], [(5, .box 28 ((encFr ⟨60000 + p.sw, p.mac, 3, p.ip, q.ip, t + c2, o, hello⟩).map .fv))]⟩) ?_ (.fun (.inl rfl) rfl rfl)
        exact tq [] []
      by_cases v4 : v = 4
      · skip
        repeat' (first | (apply X.loE; (· exact aR); (· first | (exact .eff (.idxS rfl rfl rfl encPo_len hp)) | (exact .eff (.idxS rfl rfl rfl encPo_len hq)) | (refine .eff (.quoT rfl rfl ?_ ?_) <;> first | assumption | omega) | exact .callL rfl rfl rfl (by first | exact k1 | exact k2 | exact k3 | exact k4 | exact k5 | exact k6 | exact k7) rfl | exact bl (k1) | exact bl (k2) | exact bl (k3) | exact bl (k4) | exact bl (k5) | exact bl (k6) | exact bl (k7))) | refine X.loc ?_ | refine nx ?_ | refine X.cdT ?_ | refine X.cdF ?_ | refine cb ?_ ?_ | (refine cc ?_ ?_ <;> intro hcond) | (apply X.gsE; (· exact aR); (· exact aV); (· exact aW); (· intro hc; first | (exact .eff (.idxS rfl rfl rfl encPo_len hp)) | (exact .eff (.idxS rfl rfl rfl encPo_len hq)) | (refine .eff (.quoT rfl rfl ?_ ?_) <;> first | assumption | omega) | exact .callG rfl rfl rfl (by first | exact k1 | exact k2 | exact k3 | exact k4 | exact k5 | exact k6 | exact k7) rfl | exact bg (k1) | exact bg (k2) | exact bg (k3) | exact bg (k4) | exact bg (k5) | exact bg (k6) | exact bg (k7)); (· exact aR)) | refine rb ?_ | refine nd ?_ | refine dk ?_ | fail)
        refine .le (s' := ⟨[(4, .fv (.int .i64 p.id)), (5, .optr 5 0)], [(5, .box 28 ((encFr ⟨60000 + p.sw, p.mac, 3, p.ip, q.ip, t + c2, o, hello⟩).map .fv))]⟩) ?_ (.fun (.inl rfl) rfl rfl)
        exact tq [] []
      by_cases v5 : v = 5
      · skip
        repeat' (first | (apply X.loE; (· exact aR); (· first | (exact .eff (.idxS rfl rfl rfl encPo_len hp)) | (exact .eff (.idxS rfl rfl rfl encPo_len hq)) | (refine .eff (.quoT rfl rfl ?_ ?_) <;> first | assumption | omega) | exact .callL rfl rfl rfl (by first | exact k1 | exact k2 | exact k3 | exact k4 | exact k5 | exact k6 | exact k7) rfl | exact bl (k1) | exact bl (k2) | exact bl (k3) | exact bl (k4) | exact bl (k5) | exact bl (k6) | exact bl (k7))) | refine X.loc ?_ | refine nx ?_ | refine X.cdT ?_ | refine X.cdF ?_ | refine cb ?_ ?_ | (refine cc ?_ ?_ <;> intro hcond) | (apply X.gsE; (· exact aR); (· exact aV); (· exact aW); (· intro hc; first | (exact .eff (.idxS rfl rfl rfl encPo_len hp)) | (exact .eff (.idxS rfl rfl rfl encPo_len hq)) | (refine .eff (.quoT rfl rfl ?_ ?_) <;> first | assumption | omega) | exact .callG rfl rfl rfl (by first | exact k1 | exact k2 | exact k3 | exact k4 | exact k5 | exact k6 | exact k7) rfl | exact bg (k1) | exact bg (k2) | exact bg (k3) | exact bg (k4) | exact bg (k5) | exact bg (k6) | exact bg (k7)); (· exact aR)) | refine rb ?_ | refine nd ?_ | refine dk ?_ | fail)
        refine .le (s' := ⟨[(4, .fv (.int .i64 p.id)), (5, .optr 5 0)], [(5, .box 28 ((encFr ⟨60000 + p.sw, p.mac, 3, p.ip, q.ip, t + c2, o, hello⟩).map .fv))]⟩) ?_ (.fun (.inl rfl) rfl rfl)
        exact tq [] []
      · have v66 : v = 6 := by omega
        repeat' (first | (apply X.loE; (· exact aR); (· first | (exact .eff (.idxS rfl rfl rfl encPo_len hp)) | (exact .eff (.idxS rfl rfl rfl encPo_len hq)) | (refine .eff (.quoT rfl rfl ?_ ?_) <;> first | assumption | omega) | exact .callL rfl rfl rfl (by first | exact k1 | exact k2 | exact k3 | exact k4 | exact k5 | exact k6 | exact k7) rfl | exact bl (k1) | exact bl (k2) | exact bl (k3) | exact bl (k4) | exact bl (k5) | exact bl (k6) | exact bl (k7))) | refine X.loc ?_ | refine nx ?_ | refine X.cdT ?_ | refine X.cdF ?_ | refine cb ?_ ?_ | (refine cc ?_ ?_ <;> intro hcond) | (apply X.gsE; (· exact aR); (· exact aV); (· exact aW); (· intro hc; first | (exact .eff (.idxS rfl rfl rfl encPo_len hp)) | (exact .eff (.idxS rfl rfl rfl encPo_len hq)) | (refine .eff (.quoT rfl rfl ?_ ?_) <;> first | assumption | omega) | exact .callG rfl rfl rfl (by first | exact k1 | exact k2 | exact k3 | exact k4 | exact k5 | exact k6 | exact k7) rfl | exact bg (k1) | exact bg (k2) | exact bg (k3) | exact bg (k4) | exact bg (k5) | exact bg (k6) | exact bg (k7)); (· exact aR)) | refine rb ?_ | refine nd ?_ | refine dk ?_ | fail)
        refine .le (s' := ⟨[(4, .fv (.int .i64 p.id)), (5, .optr 5 0)], [(5, .box 28 ((encFr ⟨60000 + p.sw, p.mac, 3, p.ip, q.ip, t + c2, o, hello⟩).map .fv))]⟩) ?_ (.fun (.inl rfl) rfl rfl)
        exact tq [] []
    by_cases v7 : v = 7
    · refine ⟨p.id, ⟨q.mac, q.mac, 3, p.ip, q.ip, t, o, hello⟩, by rw [hfr, if_neg v0, if_neg v1, if_neg v2, if_neg v6, if_pos v7], ?_, fun _ => fr_data (by omega) (by omega) (by omega) (by omega) (by omega) (by omega) hello40⟩
      refine Fun.body tbl_ok Tryz.func30 rfl (by kernel_rfl) rfl rfl rfl ?_
      repeat' (first | (apply X.loE; (· exact aR); (· first | (exact .eff (.idxS rfl rfl rfl encPo_len hp)) | (exact .eff (.idxS rfl rfl rfl encPo_len hq)) | (refine .eff (.quoT rfl rfl ?_ ?_) <;> first | assumption | omega) | exact .callL rfl rfl rfl (by first | exact k1 | exact k2 | exact k3 | exact k4 | exact k5 | exact k6 | exact k7) rfl | exact bl (k1) | exact bl (k2) | exact bl (k3) | exact bl (k4) | exact bl (k5) | exact bl (k6) | exact bl (k7))) | refine X.loc ?_ | refine nx ?_ | refine X.cdT ?_ | refine X.cdF ?_ | refine cb ?_ ?_ | (refine cc ?_ ?_ <;> intro hcond) | (apply X.gsE; (· exact aR); (· exact aV); (· exact aW); (· intro hc; first | (exact .eff (.idxS rfl rfl rfl encPo_len hp)) | (exact .eff (.idxS rfl rfl rfl encPo_len hq)) | (refine .eff (.quoT rfl rfl ?_ ?_) <;> first | assumption | omega) | exact .callG rfl rfl rfl (by first | exact k1 | exact k2 | exact k3 | exact k4 | exact k5 | exact k6 | exact k7) rfl | exact bg (k1) | exact bg (k2) | exact bg (k3) | exact bg (k4) | exact bg (k5) | exact bg (k6) | exact bg (k7)); (· exact aR)) | refine rb ?_ | refine nd ?_ | refine dk ?_ | fail)
      refine .le (s' := ⟨[(4, .fv (.int .i64 p.id)), (5, .optr 5 0)], [(5, .box 28 ((encFr ⟨q.mac, q.mac, 3, p.ip, q.ip, t, o, hello⟩).map .fv))]⟩) ?_ (.fun (.inl rfl) rfl rfl)
      exact tq [] []
    · refine ⟨p.id, ⟨q.mac, p.mac, 3, p.ip, q.ip, t, o, hello⟩, by rw [hfr, if_neg v0, if_neg v1, if_neg v2, if_neg v6, if_neg v7], ?_, fun _ => fr_data (by omega) (by omega) (by omega) (by omega) (by omega) (by omega) hello40⟩
      refine Fun.body tbl_ok Tryz.func30 rfl (by kernel_rfl) rfl rfl rfl ?_
      repeat' (first | (apply X.loE; (· exact aR); (· first | (exact .eff (.idxS rfl rfl rfl encPo_len hp)) | (exact .eff (.idxS rfl rfl rfl encPo_len hq)) | (refine .eff (.quoT rfl rfl ?_ ?_) <;> first | assumption | omega) | exact .callL rfl rfl rfl (by first | exact k1 | exact k2 | exact k3 | exact k4 | exact k5 | exact k6 | exact k7) rfl | exact bl (k1) | exact bl (k2) | exact bl (k3) | exact bl (k4) | exact bl (k5) | exact bl (k6) | exact bl (k7))) | refine X.loc ?_ | refine nx ?_ | refine X.cdT ?_ | refine X.cdF ?_ | refine cb ?_ ?_ | (refine cc ?_ ?_ <;> intro hcond) | (apply X.gsE; (· exact aR); (· exact aV); (· exact aW); (· intro hc; first | (exact .eff (.idxS rfl rfl rfl encPo_len hp)) | (exact .eff (.idxS rfl rfl rfl encPo_len hq)) | (refine .eff (.quoT rfl rfl ?_ ?_) <;> first | assumption | omega) | exact .callG rfl rfl rfl (by first | exact k1 | exact k2 | exact k3 | exact k4 | exact k5 | exact k6 | exact k7) rfl | exact bg (k1) | exact bg (k2) | exact bg (k3) | exact bg (k4) | exact bg (k5) | exact bg (k6) | exact bg (k7)); (· exact aR)) | refine rb ?_ | refine nd ?_ | refine dk ?_ | fail)
      refine .le (s' := ⟨[(4, .fv (.int .i64 p.id)), (5, .optr 5 0)], [(5, .box 28 ((encFr ⟨q.mac, p.mac, 3, p.ip, q.ip, t, o, hello⟩).map .fv))]⟩) ?_ (.fun (.inl rfl) rfl rfl)
      exact tq [] []
theorem frameK_T (c : Cf) (hc : CfOk c) (r : Rq) (ho : r.Ok) : ∃ (id : Int) (f : Fr), Fun Tryz.prog 30 [.agg ((encCf c).map .fv), .agg ((encRq r).map .fv)] (.tup [.fv (.int .i64 id), .agg ((encFr f).map .fv)]) ∧ (c.ps ≠ [] → frameFault f = 0) := by
  obtain ⟨id, f, _, h⟩ := frameE_T c hc r ho
  exact ⟨id, f, h⟩
end Go.Proofs.YtmidechdlbcepaaGreat