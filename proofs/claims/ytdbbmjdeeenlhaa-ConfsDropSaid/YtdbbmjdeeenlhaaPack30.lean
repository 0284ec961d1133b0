/- Bytes: two of a word, and sums, by the logic of memory. -/
import Derived.Test.YtdbbmjdeeenlhaaPack28
import Derived.Test.YtdbbmjdeeenlhaaPack06
import Derived.Test.YtdbbmjdeeenlhaaPack22
import Derived.Test.YtdbbmjdeeenlhaaPack26
set_option linter.unusedSimpArgs false
set_option linter.unusedVariables false
namespace Go.Proofs.Ytdbbmjdeeenlhaa
open Go.RowKit
set_option maxRecDepth 100000

theorem encB_len (u : UInt8) : (encB u).length = 1 := rfl
theorem u8_wrap (n : Nat) : IntKind.u8.wrap (n : Int) = ((UInt8.ofNat n).toNat : Int) := by
  simp [IntKind.wrap, IntKind.bits, IntKind.signed]
section
variable {T : Tbl} {ρ : Operand → AV} {H : Own} {d : Nat}
theorem Eff.convB {s t : Nat} {x : Operand} {k'' : IntKind} {n : Nat} (h1 : ρ x = .fv (.int .i64 (n : Int))) (h2 : lk T.kind t = some .u8) (h3 : lk T.kind s = some k'') : Eff T ρ H d (.convert s t x) (.fv (.int .u8 ((UInt8.ofNat n).toNat : Int))) [] := by
  have := Eff.conv (T := T) (H := H) (d := d) h1 h2 h3
  rwa [u8_wrap] at this
theorem Eff.conv8 {s t : Nat} {x : Operand} {k'' : IntKind} {u : UInt8} (h1 : ρ x = .fv (.int .u8 (u.toNat : Int))) (h2 : lk T.kind t = some .i64) (h3 : lk T.kind s = some k'') : Eff T ρ H d (.convert s t x) (.fv (.int .i64 (u.toNat : Int))) [] := by
  have := Eff.conv (T := T) (H := H) (d := d) h1 h2 h3
  have hu := u.toNat_lt
  rwa [I64.wrap (by omega) (by omega)] at this
theorem Eff.shrB {t u : Nat} {x y : Operand} {k' : IntKind} {n : Nat} (h1 : ρ x = .fv (.int .i64 (n : Int))) (h2 : ρ y = .fv (.int k' 8)) : Eff T ρ H d (.binOp .shr t x y u) (.fv (.int .i64 ((n / 256 : Nat) : Int))) [] := by
  have := Eff.shr (T := T) (H := H) (d := d) (t := t) (u := u) h1 h2 (by omega) (by decide)
  rwa [show ((n : Int) / 2 ^ (8 : Int).toNat) = ((n / 256 : Nat) : Int) by rw [Int.natCast_ediv]; rfl] at this
theorem Eff.shrW {t u : Nat} {x y : Operand} {k' : IntKind} {n : Nat} (h1 : ρ x = .fv (.int .i64 (n : Int))) (h2 : ρ y = .fv (.int k' 16)) : Eff T ρ H d (.binOp .shr t x y u) (.fv (.int .i64 ((n / 65536 : Nat) : Int))) [] := by
  have := Eff.shr (T := T) (H := H) (d := d) (t := t) (u := u) h1 h2 (by omega) (by decide)
  rwa [show ((n : Int) / 2 ^ (16 : Int).toNat) = ((n / 65536 : Nat) : Int) by rw [Int.natCast_ediv]; rfl] at this
theorem Eff.shlB {t u : Nat} {x y : Operand} {k' : IntKind} {n : Nat} (h1 : ρ x = .fv (.int .i64 (n : Int))) (h2 : ρ y = .fv (.int k' 8)) (h3 : n ≤ 65535) : Eff T ρ H d (.binOp .shl t x y u) (.fv (.int .i64 ((n * 256 : Nat) : Int))) [] := by
  have := Eff.shl (T := T) (H := H) (d := d) (t := t) (u := u) h1 h2 (by omega) (by decide)
  have e : ((n : Int) * 2 ^ (8 : Int).toNat) = ((n * 256 : Nat) : Int) := by rw [Int.natCast_mul]; rfl
  rwa [e, I64.wrap (by omega) (by omega)] at this
theorem Eff.andW {t u : Nat} {x : Operand} {n : Nat} (h1 : ρ x = .fv (.int .i64 (n : Int))) (h2 : ρ (.const (.int .i64 65535)) = .fv (.int .i64 65535)) (h3 : n ≤ 65280000) : Eff T ρ H d (.binOp .and t x (.const (.int .i64 65535)) u) (.fv (.int .i64 ((n % 65536 : Nat) : Int))) [] := by
  have := Eff.bin (T := T) (H := H) (d := d) (op := .and) (t := t) (u := u) h1 h2 rfl
  rwa [bits_and_word n h3, show (n : Int) % 65536 = ((n % 65536 : Nat) : Int) by omega] at this
theorem Eff.xorW {t u : Nat} {x : Operand} {n : Nat} (h1 : ρ x = .fv (.int .i64 (n : Int))) (h2 : ρ (.const (.int .i64 65535)) = .fv (.int .i64 65535)) (h3 : n ≤ 65535) : Eff T ρ H d (.binOp .xor t x (.const (.int .i64 65535)) u) (.fv (.int .i64 ((65535 - n : Nat) : Int))) [] := by
  have := Eff.bin (T := T) (H := H) (d := d) (op := .xor) (t := t) (u := u) h1 h2 rfl
  rwa [bits_xor_word n h3, show 65535 - (n : Int) = ((65535 - n : Nat) : Int) by omega] at this
end
theorem ofNat_mod (n : Nat) : UInt8.ofNat (n % 256) = UInt8.ofNat n := by
  apply UInt8.toNat_inj.1
  simp
theorem bytes_app (bs cs : List UInt8) : ((bs ++ cs).flatMap encB).map AV.fv = (bs.flatMap encB).map .fv ++ (cs.flatMap encB).map .fv := by simp
theorem two_T (bs : List UInt8) (k n : Nat) (hk : k = bs.length) (hn : n ≤ 65535) (hl : k ≤ 100000) : FunO Try.prog 85 [.osl 1000, .fv (.int .i64 (n : Int))] [(1000, .row 5 1 k ((bs.flatMap encB).map .fv))] (.osl 7) [(7, .row 5 1 (k + 2) (((bs ++ be n).flatMap encB).map .fv))] := by
  refine FunO.body tbl_ok Try.func85 rfl (by kernel_rfl) rfl rfl rfl ?_
  repeat' (first
    | (apply X.loE; (· exact aR); (· first | (exact .eff (.shrB rfl rfl)) | (exact .eff (.convB rfl rfl rfl))))
    | refine X.loc ?_
    | refine nx ?_
    | (refine WP.condBit rfl ?_ ?_)
    | (refine WP.cond rfl ?_ ?_ <;> intro hcond)
    | (apply X.gsE; (· exact aR); (· exact aV); (· exact aW); (· intro hc; first | (exact .eff (.shrB rfl rfl)) | (exact .eff (.convB rfl rfl rfl))); (· exact aR))
    | refine X.gst ?_ | refine X.gld ?_ | refine X.new ?_ | refine X.app ?_ | refine X.appS ?_ | refine X.stoW ?_ | refine X.stoB ?_ | refine X.stoR ?_ | refine X.gand ?_ | refine X.gor ?_
    | refine nd ?_
    | ((with_reducible apply drwK.mk); (· kernel_rfl); (· exact aF))
    | fail)
  refine .ofO (s' := ⟨[(4, .osl 7)], [(7, .row 5 1 (k + 2) (((bs ++ be n).flatMap encB).map .fv))]⟩) (.inl rfl) ?_ rfl rfl rfl
  refine St.to [(7, .id 12)] [] rfl rfl ?_ ?_ <;> (repeat' (first | exact tA | refine t1 ?_ | exact tB | refine t2 ?_ ?_ | refine t3 ?_ | refine t4 ?_ ?_ | refine .ofEq ?_ | refine OB.To.cut rfl rfl ?_ ?_ ?_ ?_ | refine OB.To.box rfl rfl ?_ | refine ⟨⟨_, rfl, ?_⟩, ?_⟩ | refine ⟨?_, ?_⟩ | fail))
  all_goals (rw [bytes_app]; rfl)
theorem Eff.idxB8 {T : Tbl} {ρ : Operand → AV} {H : Own} {d t : Nat} {x y : Operand} {l : List UInt8} {k e b i : Nat} {kk : IntKind} {u : UInt8} (hk : k = l.length) (h1 : ρ x = .fv (.sl (l.flatMap encB) k)) (h2 : ρ y = .fv (.int kk i)) (h3 : lk T.sli t = some (e, 1, b)) (hu : l[i]? = some u) : Eff T ρ H d (.indexAddr t x y) (.fptr (encB u)) [] := by
  subst hk
  exact Eff.idxS (enc := encB) h1 h2 h3 encB_len hu
set_option maxHeartbeats 2000000 in
theorem sum_T (bs : List UInt8) (k : Nat) (hk : k = bs.length) (hl : k ≤ 1000) : Fun Try.prog 86 [.fv (.sl (bs.flatMap encB) k)] (.fv (.int .i64 (sumOf bs : Nat))) := by
  refine Fun.body tbl_ok Try.func86 rfl (by kernel_rfl) rfl rfl rfl ?_
  repeat' (first
    | refine X.loc ?_
    | refine nx ?_
    | (refine WP.condBit rfl ?_ ?_)
    | (refine WP.cond rfl ?_ ?_ <;> intro hcond)
    | refine X.gst ?_ | refine X.gld ?_ | refine X.new ?_ | refine X.app ?_ | refine X.appS ?_ | refine X.stoW ?_ | refine X.stoB ?_ | refine X.stoR ?_ | refine X.gand ?_ | refine X.gor ?_
    | refine nd ?_
    | ((with_reducible apply drwK.mk); (· kernel_rfl); (· exact aF))
    | fail)
  refine WP.loop (ι := Nat) (fun j => ⟨[(6, .fv (.sl (bs.flatMap encB) k)), (7, .fv (.int .i64 k)), (8, .fv (.int .i64 j)), (3, .fv (.int .i64 (raw true (bs.take j) : Nat)))], []⟩) (fun j => j ≤ k) (fun j => k - j) 0 (by omega) ?_ ?_
  · skip
    refine St.le_of ?_ ?_ <;> (repeat' (first | exact trivial | refine ⟨⟨_, rfl, .refl _⟩, ?_⟩ | refine ⟨⟨_, rfl, .any _⟩, ?_⟩ | refine ⟨⟨_, rfl, .of_eq ?_⟩, ?_⟩ | refine ⟨⟨_, rfl, fun _ _ _ _ h => h⟩, ?_⟩ | fail))
  rintro j hj
  try dsimp only
  have hr := raw_le true (bs.take j)
  have hrl : (bs.take j).length ≤ 1000 := by simp; omega
  by_cases hlt : j < k
  case pos =>
    obtain ⟨u, hu⟩ : ∃ u, bs[j]? = some u := ⟨_, List.getElem?_eq_getElem (by omega)⟩
    have hat := raw_take hu
    have hu8 := u.toNat_lt
    repeat' (first
      | (apply X.loE; (· exact aR); (· first | (exact .eff (.idxB8 hk rfl rfl rfl hu)) | (exact .eff (.conv8 rfl rfl rfl)) | (exact .eff (.shlB rfl rfl (by omega)))))
      | refine X.loc ?_
      | refine nx ?_
      | refine X.cdT ?_
      | refine X.cdF ?_
      | (refine WP.condBit rfl ?_ ?_)
      | (refine WP.cond rfl ?_ ?_ <;> intro hcond)
      | (apply X.gsE; (· exact aR); (· exact aV); (· exact aW); (· intro hc; first | (exact .eff (.idxB8 hk rfl rfl rfl hu)) | (exact .eff (.conv8 rfl rfl rfl)) | (exact .eff (.shlB rfl rfl (by omega)))); (· exact aR))
      | refine X.gst ?_ | refine X.gld ?_ | refine X.new ?_ | refine X.app ?_ | refine X.appS ?_ | refine X.stoW ?_ | refine X.stoB ?_ | refine X.stoR ?_ | refine X.gand ?_ | refine X.gor ?_
      | refine nd ?_
      | ((with_reducible apply drwK.mk); (· kernel_rfl); (· exact aF))
      | fail)
    · refine ⟨j + 1, by omega, by omega, ?_⟩
      refine St.le_of ?_ ?_ <;> (repeat' (first | exact trivial | refine ⟨⟨_, rfl, .refl _⟩, ?_⟩ | refine ⟨⟨_, rfl, .any _⟩, ?_⟩ | refine ⟨⟨_, rfl, .of_eq ?_⟩, ?_⟩ | refine ⟨⟨_, rfl, fun _ _ _ _ h => h⟩, ?_⟩ | fail))
      all_goals
        have h2 : j % 2 = 0 := by simp at hcond; omega
        rw [if_pos h2] at hat
        rw [hat]
        congr 2
        omega
    · refine ⟨j + 1, by omega, by omega, ?_⟩
      refine St.le_of ?_ ?_ <;> (repeat' (first | exact trivial | refine ⟨⟨_, rfl, .refl _⟩, ?_⟩ | refine ⟨⟨_, rfl, .any _⟩, ?_⟩ | refine ⟨⟨_, rfl, .of_eq ?_⟩, ?_⟩ | refine ⟨⟨_, rfl, fun _ _ _ _ h => h⟩, ?_⟩ | fail))
      all_goals
        have h2 : ¬ j % 2 = 0 := by simp at hcond; omega
        rw [if_neg h2] at hat
        rw [hat]
        congr 2
  case neg =>
    have hjk : j = k := by omega
    subst hjk
    rw [List.take_of_length_le (by omega)] at hr ⊢
    repeat' (first
      | refine X.loc ?_
      | refine nx ?_
      | refine X.cdT ?_
      | refine X.cdF ?_
      | (refine WP.condBit rfl ?_ ?_)
      | (refine WP.cond rfl ?_ ?_ <;> intro hcond)
      | refine X.gst ?_ | refine X.gld ?_ | refine X.new ?_ | refine X.app ?_ | refine X.appS ?_ | refine X.stoW ?_ | refine X.stoB ?_ | refine X.stoR ?_ | refine X.gand ?_ | refine X.gor ?_
      | refine nd ?_
      | ((with_reducible apply drwK.mk); (· kernel_rfl); (· exact aF))
      | fail)
    refine WP.loop (ι := Nat) (fun q => ⟨[(3, .fv (.int .i64 q))], []⟩) (fun q => q ≤ 65280000 ∧ csum q = csum (raw true bs)) (fun q => q) (raw true bs) ⟨by omega, rfl⟩ ?_ ?_
    · skip
      refine St.le_of ?_ ?_ <;> (repeat' (first | exact trivial | refine ⟨⟨_, rfl, .refl _⟩, ?_⟩ | refine ⟨⟨_, rfl, .any _⟩, ?_⟩ | refine ⟨⟨_, rfl, .of_eq ?_⟩, ?_⟩ | refine ⟨⟨_, rfl, fun _ _ _ _ h => h⟩, ?_⟩ | fail))
    rintro q ⟨hq, hc⟩
    try dsimp only
    by_cases hg : 65535 < q
    case pos =>
      repeat' (first
        | (apply X.loE; (· exact aR); (· first | (exact .eff (.shrW rfl rfl)) | (exact .eff (.andW rfl rfl (by omega)))))
        | refine X.loc ?_
        | refine nx ?_
        | refine X.cdT ?_
        | refine X.cdF ?_
        | (refine WP.condBit rfl ?_ ?_)
        | (refine WP.cond rfl ?_ ?_ <;> intro hcond)
        | (apply X.gsE; (· exact aR); (· exact aV); (· exact aW); (· intro hc; first | (exact .eff (.shrW rfl rfl)) | (exact .eff (.andW rfl rfl (by omega)))); (· exact aR))
        | refine X.gst ?_ | refine X.gld ?_ | refine X.new ?_ | refine X.app ?_ | refine X.appS ?_ | refine X.stoW ?_ | refine X.stoB ?_ | refine X.stoR ?_ | refine X.gand ?_ | refine X.gor ?_
        | refine nd ?_
        | ((with_reducible apply drwK.mk); (· kernel_rfl); (· exact aF))
        | fail)
      refine ⟨q / 65536 + q % 65536, ⟨by omega, by rw [csum_fold q hg]; exact hc⟩, by omega, ?_⟩
      refine St.le_of ?_ ?_ <;> (repeat' (first | exact trivial | refine ⟨⟨_, rfl, .refl _⟩, ?_⟩ | refine ⟨⟨_, rfl, .any _⟩, ?_⟩ | refine ⟨⟨_, rfl, .of_eq ?_⟩, ?_⟩ | refine ⟨⟨_, rfl, fun _ _ _ _ h => h⟩, ?_⟩ | fail))
      all_goals (congr 2)
    case neg =>
      repeat' (first
        | (apply X.loE; (· exact aR); (· first | (exact .eff (.xorW rfl rfl (by omega)))))
        | refine X.loc ?_
        | refine nx ?_
        | refine X.cdT ?_
        | refine X.cdF ?_
        | (refine WP.condBit rfl ?_ ?_)
        | (refine WP.cond rfl ?_ ?_ <;> intro hcond)
        | (apply X.gsE; (· exact aR); (· exact aV); (· exact aW); (· intro hc; first | (exact .eff (.xorW rfl rfl (by omega)))); (· exact aR))
        | refine X.gst ?_ | refine X.gld ?_ | refine X.new ?_ | refine X.app ?_ | refine X.appS ?_ | refine X.stoW ?_ | refine X.stoB ?_ | refine X.stoR ?_ | refine X.gand ?_ | refine X.gor ?_
        | refine nd ?_
        | ((with_reducible apply drwK.mk); (· kernel_rfl); (· exact aF))
        | fail)
      refine .f1 (.inl rfl) rfl ?_
      rw [sumOf, ← hc, csum_small (by omega)]
end Go.Proofs.Ytdbbmjdeeenlhaa

/- Frames as bytes, by the logic of memory. -/
namespace Go.Proofs.Ytdbbmjdeeenlhaa
open Go.RowKit
set_option maxRecDepth 100000

/-- The bytes of a frame, but for the sum; all of them. -/
def headF (f : Fr) : List UInt8 := be f.dst.toNat ++ be f.src.toNat ++ [UInt8.ofNat f.kind.toNat, UInt8.ofNat f.ttl.toNat] ++ be f.ipSrc.toNat ++ be f.ipDst.toNat ++ be f.port.toNat ++ [0, UInt8.ofNat f.body.size] ++ f.body.data.toList
def bytesF (f : Fr) : List UInt8 := headF f ++ be (sumOf (headF f))
def encF (f : Fr) : List UInt8 := if frameFault f ≠ 0 then [] else bytesF f
theorem headF_len (f : Fr) : (headF f).length = 14 + f.body.size := by
  simp only [headF, be, List.length_append, List.length_cons, List.length_nil, Array.length_toList]
  show _ = 14 + f.body.data.size
  omega
theorem bytesF_len (f : Fr) : (bytesF f).length = 16 + f.body.size := by
  rw [bytesF, List.length_append, headF_len]
  simp only [be, List.length_cons, List.length_nil]
  omega
structure FrMay (f : Fr) : Prop where
  dst : 0 ≤ f.dst ∧ f.dst ≤ 65535
  src : 0 ≤ f.src ∧ f.src ≤ 65535
  kind : 1 ≤ f.kind ∧ f.kind ≤ 3
  ipSrc : 0 ≤ f.ipSrc ∧ f.ipSrc ≤ 65535
  ipDst : 0 ≤ f.ipDst ∧ f.ipDst ≤ 65535
  ttl : 0 ≤ f.ttl ∧ f.ttl ≤ 255
  port : 0 ≤ f.port ∧ f.port ≤ 65535
  body : f.body.size ≤ 40
theorem frMay {f : Fr} (h : frameFault f = 0) : FrMay f := by
  unfold frameFault at h
  split at h
  · omega
  · split at h
    · omega
    · split at h
      · omega
      · rename_i h1 h2 h3
        have hw : ∀ n, ¬ word n = false → 0 ≤ n ∧ n ≤ 65535 := fun n hn => word_iff.1 (by simpa using hn)
        refine ⟨hw _ fun h => h2 (.inl h), hw _ fun h => h2 (.inr (.inl h)), by omega, hw _ fun h => h2 (.inr (.inr (.inl h))), hw _ fun h => h2 (.inr (.inr (.inr (.inl h)))), ?_, hw _ fun h => h2 (.inr (.inr (.inr (.inr (.inl h))))), by omega⟩
        refine ⟨?_, ?_⟩
        · rcases Int.lt_or_le f.ttl 0 with h | h
          · exact absurd (.inr (.inr (.inr (.inr (.inr (.inl h)))))) h2
          · exact h
        · rcases Int.lt_or_le 255 f.ttl with h | h
          · exact absurd (.inr (.inr (.inr (.inr (.inr (.inr h)))))) h2
          · exact h
theorem fr_nat {f : Fr} (h : FrMay f) : ∃ n0 n1 n2 n3 n4 n5 n6 : Nat, f = ⟨n0, n1, n2, n3, n4, n5, n6, f.body⟩ ∧ n0 ≤ 65535 ∧ n1 ≤ 65535 ∧ n2 ≤ 255 ∧ n3 ≤ 65535 ∧ n4 ≤ 65535 ∧ n5 ≤ 255 ∧ n6 ≤ 65535 := by
  obtain ⟨d, s, k, is, id, t, p, b⟩ := f
  obtain ⟨h0, h1, h2, h3, h4, h5, h6, h7⟩ := h
  refine ⟨d.toNat, s.toNat, k.toNat, is.toNat, id.toNat, t.toNat, p.toNat, ?_, ?_, ?_, ?_, ?_, ?_, ?_, ?_⟩
  · dsimp only at *
    rw [Int.toNat_of_nonneg h0.1, Int.toNat_of_nonneg h1.1, Int.toNat_of_nonneg (show 0 ≤ k by omega), Int.toNat_of_nonneg h3.1, Int.toNat_of_nonneg h4.1, Int.toNat_of_nonneg h5.1, Int.toNat_of_nonneg h6.1]
  all_goals (dsimp only at *; omega)
theorem be_small {n : Nat} (h : n ≤ 255) : be n = [0, UInt8.ofNat n] := by
  unfold be
  rw [Nat.div_eq_of_lt (by omega)]
  rfl
set_option maxHeartbeats 4000000 in
theorem encode_T (f : Fr) : FunO Try.prog 37 [.agg ((encFr f).map .fv)] [] (.tup [.osl 7, .fv (.int .i64 (frameFault f))]) [(7, .row 5 1 (encF f).length (((encF f).flatMap encB).map .fv))] := by
  have hck := wireCheck_T f
  by_cases hff : frameFault f = 0
  case neg =>
    have he : encF f = [] := if_pos hff
    rw [he]
    refine FunO.body tbl_ok Try.func37 rfl (by kernel_rfl) rfl rfl rfl ?_
    repeat' (first
      | (apply X.loE; (· exact aR); (· first | exact .callL rfl rfl rfl (hck) rfl | (apply LEff.callBL; (· rfl); (· rfl); (· exact hck); (· exact aB); (· rfl))))
      | refine X.loc ?_
      | refine nx ?_
      | (refine WP.condBit rfl ?_ ?_)
      | (refine WP.cond rfl ?_ ?_ <;> intro hcond)
      | (apply X.gsE; (· exact aR); (· exact aV); (· exact aW); (· intro hc; first | exact .callG rfl rfl rfl (hck) rfl | (apply LEff.callBG; (· rfl); (· rfl); (· exact hck); (· exact aB); (· rfl))); (· exact aR))
      | refine X.gst ?_ | refine X.gld ?_ | refine X.new ?_ | refine X.app ?_ | refine X.appS ?_ | refine X.stoW ?_ | refine X.stoB ?_ | refine X.stoR ?_ | refine X.gand ?_ | refine X.gor ?_
      | refine nd ?_
      | ((with_reducible apply drwK.mk); (· kernel_rfl); (· exact aF))
      | fail)
    · refine .ofO (s' := ⟨[(2, .osl 7), (3, .fv (.int .i64 (frameFault f)))], [(7, .row 5 1 0 [])]⟩) (.inl rfl) ?_ rfl rfl rfl
      refine St.to [(7, .nil)] [] rfl rfl ?_ ?_ <;> (repeat' (first | exact tA | refine t1 ?_ | exact tB | refine t2 ?_ ?_ | refine t3 ?_ | refine t4 ?_ ?_ | refine .ofEq ?_ | refine OB.To.cut rfl rfl ?_ ?_ ?_ ?_ | refine OB.To.box rfl rfl ?_ | refine ⟨⟨_, rfl, ?_⟩, ?_⟩ | refine ⟨?_, ?_⟩ | fail))
    all_goals
      exfalso
      exact hff (by simpa using hcond)
  case pos =>
    have he : encF f = bytesF f := if_neg (by omega)
    have hlen := bytesF_len f
    rw [he]
    have hm := frMay hff
    have hb := hm.body
    rw [hff] at hck ⊢
    obtain ⟨n0, n1, n2, n3, n4, n5, n6, hfe, b0, b1, b2, b3, b4, b5, b6⟩ := fr_nat hm
    generalize f.body = s at hfe hb hlen
    subst hfe
    have hhl := headF_len ⟨n0, n1, n2, n3, n4, n5, n6, s⟩
    have hb2 : (Fr.body ⟨n0, n1, n2, n3, n4, n5, n6, s⟩).size ≤ 40 := hb
    have hs := sumOf_le (headF ⟨n0, n1, n2, n3, n4, n5, n6, s⟩)
    have hsum := sum_T (headF ⟨n0, n1, n2, n3, n4, n5, n6, s⟩) (14 + s.size) hhl.symm (by omega)
    have hbf : bytesF ⟨n0, n1, n2, n3, n4, n5, n6, s⟩ = headF ⟨n0, n1, n2, n3, n4, n5, n6, s⟩ ++ be (sumOf (headF ⟨n0, n1, n2, n3, n4, n5, n6, s⟩)) := rfl
    generalize hq : sumOf (headF ⟨n0, n1, n2, n3, n4, n5, n6, s⟩) = q at hs hsum hbf
    rw [hbf] at hlen ⊢
    refine FunO.body tbl_ok Try.func37 rfl (by kernel_rfl) rfl rfl rfl ?_
    repeat' (first
      | (apply X.loE; (· exact aR); (· first | (exact .eff (.convB rfl rfl rfl)) | exact .callL rfl rfl rfl (by first | exact hck | exact hsum) rfl | (apply LEff.callBL; (· rfl); (· rfl); (· exact hck); (· exact aB); (· rfl)) | (apply LEff.callBL; (· rfl); (· rfl); (· exact hsum); (· exact aB); (· rfl))))
      | refine X.loc ?_
      | refine nx ?_
      | refine X.cdT ?_
      | refine X.cdF ?_
      | (refine WP.condBit rfl ?_ ?_)
      | (refine WP.cond rfl ?_ ?_ <;> intro hcond)
      | (apply X.gsE; (· exact aR); (· exact aV); (· exact aW); (· intro hc; first | (exact .eff (.convB rfl rfl rfl)) | exact .callG rfl rfl rfl (by first | exact hck | exact hsum) rfl | (apply LEff.callBG; (· rfl); (· rfl); (· exact hck); (· exact aB); (· rfl)) | (apply LEff.callBG; (· rfl); (· rfl); (· exact hsum); (· exact aB); (· rfl))); (· exact aR))
      | refine X.gst ?_ | refine X.gld ?_ | refine X.new ?_ | refine X.app ?_ | refine X.appS ?_ | refine X.stoW ?_ | refine X.stoB ?_ | refine X.stoR ?_ | refine X.gand ?_ | refine X.gor ?_
      | (apply X.cal false; (· exact aR); (· exact two_T [] 0 n0 rfl b0 (by omega)); (· exact aC))
      | (apply X.cal false; (· exact aR); (· exact two_T (be n0) 2 n1 rfl b1 (by omega)); (· exact aC))
      | (apply X.cal false; (· exact aR); (· exact two_T (be n0 ++ be n1 ++ [UInt8.ofNat n2, UInt8.ofNat n5]) 6 n3 rfl b3 (by omega)); (· exact aC))
      | (apply X.cal false; (· exact aR); (· exact two_T (be n0 ++ be n1 ++ [UInt8.ofNat n2, UInt8.ofNat n5] ++ be n3) 8 n4 rfl b4 (by omega)); (· exact aC))
      | (apply X.cal false; (· exact aR); (· exact two_T (be n0 ++ be n1 ++ [UInt8.ofNat n2, UInt8.ofNat n5] ++ be n3 ++ be n4) 10 n6 rfl b6 (by omega)); (· exact aC))
      | (apply X.cal false; (· exact aR); (· exact two_T (headF ⟨n0, n1, n2, n3, n4, n5, n6, s⟩) (14 + s.size) q hhl.symm hs (by omega)); (· exact aC))
      | refine nd ?_
      | ((with_reducible apply drwK.mk); (· kernel_rfl); (· exact aF))
      | fail)
    refine .ofO (s' := ⟨[(2, .osl 7), (3, .fv (.int .i64 0))], [(7, .row 5 1 (headF ⟨n0, n1, n2, n3, n4, n5, n6, s⟩ ++ be q).length (((headF ⟨n0, n1, n2, n3, n4, n5, n6, s⟩ ++ be q).flatMap encB).map .fv))]⟩) (.inl rfl) ?_ rfl rfl rfl
    refine St.to [(7, .id 49)] [] rfl rfl ?_ ?_ <;> (repeat' (first | exact tA | refine t1 ?_ | exact tB | refine t2 ?_ ?_ | refine t3 ?_ | refine t4 ?_ ?_ | refine .ofEq ?_ | refine OB.To.cut rfl rfl ?_ ?_ ?_ ?_ | refine OB.To.box rfl rfl ?_ | refine ⟨⟨_, rfl, ?_⟩, ?_⟩ | refine ⟨?_, ?_⟩ | fail))
    all_goals (rw [hlen]; omega)
theorem encodeF_T (f : Fr) : Fun Try.prog 37 [.agg ((encFr f).map .fv)] (.tup [.fv (.sl ((encF f).flatMap encB) (encF f).length), .fv (.int .i64 (frameFault f))]) :=
  FunO.froz [7] (encode_T f) (.tup (.cons (.frz rfl rfl rfl) (.cons (.le (.refl _) rfl) .nil)))
/-- The same, a body's length told by two bytes of a word. -/
def headR (f : Fr) : List UInt8 := be f.dst.toNat ++ be f.src.toNat ++ [UInt8.ofNat f.kind.toNat, UInt8.ofNat f.ttl.toNat] ++ be f.ipSrc.toNat ++ be f.ipDst.toNat ++ be f.port.toNat ++ be f.body.size ++ f.body.data.toList
theorem headR_eq {f : Fr} (h : f.body.size ≤ 255) : headR f = headF f := by
  unfold headR headF
  rw [be_small h]
end Go.Proofs.Ytdbbmjdeeenlhaa

/- Words of bytes, and frames of them, by the logic of memory. -/
namespace Go.Proofs.Ytdbbmjdeeenlhaa
open Go.RowKit
set_option maxRecDepth 100000

theorem bits_or_byte (n m : Nat) (h : n ≤ 65535) (hm : m < 256) : bits .or .i64 ((n * 256 : Nat) : Int) (m : Int) = ((256 * n + m : Nat) : Int) := by
  have e : n * 256 ||| m = 256 * n + m := by
    have := Nat.shiftLeft_add_eq_or_of_lt (a := n) (b := m) (i := 8) (by omega)
    rw [Nat.shiftLeft_eq, show 2 ^ 8 = 256 from rfl] at this
    omega
  show IntKind.i64.wrap ((BitVec.ofInt 64 ((n * 256 : Nat) : Int) ||| BitVec.ofInt 64 (m : Int)).toNat : Int) = _
  rw [BitVec.toNat_or, ofInt_i64 _ (by omega), ofInt_i64 _ (by omega), e, IntKind.wrap_i64]
  omega
def byteAt (bs : List UInt8) (i : Nat) : UInt8 := (bs[i]?).getD 0
def wat (bs : List UInt8) (i : Nat) : Nat := 256 * (byteAt bs i).toNat + (byteAt bs (i + 1)).toNat
theorem byteAt_get {bs : List UInt8} {i k : Nat} (hk : k = bs.length) (h : i < k) : bs[i]? = some (byteAt bs i) := by
  subst hk
  rw [byteAt, List.getElem?_eq_getElem h]
  rfl
theorem wat_le (bs : List UInt8) (i : Nat) : wat bs i ≤ 65535 := by
  have := (byteAt bs i).toNat_lt
  have := (byteAt bs (i + 1)).toNat_lt
  unfold wat
  omega
theorem flatMap_drop {α : Type} {enc : α → List FV} {s : Nat} (hs : ∀ x, (enc x).length = s) : ∀ (l : List α) (j : Nat), (l.flatMap enc).drop (j * s) = (l.drop j).flatMap enc
  | l, 0 => by simp
  | [], j + 1 => by simp
  | x :: l, j + 1 => by
    rw [List.flatMap_cons, List.drop_succ_cons, ← flatMap_drop hs l j, Nat.add_mul, Nat.one_mul, Nat.add_comm, ← List.drop_drop, List.drop_left' (hs x)]
theorem flatMap_take {α : Type} {enc : α → List FV} {s : Nat} (hs : ∀ x, (enc x).length = s) : ∀ (l : List α) (j : Nat), (l.flatMap enc).take (j * s) = (l.take j).flatMap enc
  | l, 0 => by simp
  | [], j + 1 => by simp
  | x :: l, j + 1 => by
    rw [List.flatMap_cons, List.take_succ_cons, List.flatMap_cons, ← flatMap_take hs l j, Nat.add_mul, Nat.one_mul, Nat.add_comm, List.take_append, List.take_of_length_le (by rw [hs]; omega), hs, Nat.add_sub_cancel_left]
section
variable {T : Tbl} {ρ : Operand → AV} {H : Own} {d : Nat}
theorem Eff.orB {t u : Nat} {x y : Operand} {n m : Nat} (h1 : ρ x = .fv (.int .i64 ((n * 256 : Nat) : Int))) (h2 : ρ y = .fv (.int .i64 (m : Int))) (h3 : n ≤ 65535) (h4 : m < 256) : Eff T ρ H d (.binOp .or t x y u) (.fv (.int .i64 ((256 * n + m : Nat) : Int))) [] := by
  have := Eff.bin (T := T) (H := H) (d := d) (op := .or) (t := t) (u := u) h1 h2 rfl
  rwa [bits_or_byte n m h3 h4] at this
theorem Eff.idxBI {t : Nat} {x y : Operand} {l : List UInt8} {k e b : Nat} (i : Nat) {kk : IntKind} {v : Int} (hk : k = l.length) (h1 : ρ x = .fv (.sl (l.flatMap encB) k)) (h2 : ρ y = .fv (.int kk v)) (h3 : lk T.sli t = some (e, 1, b)) (hv : v = (i : Int)) (hi : i < k) : Eff T ρ H d (.indexAddr t x y) (.fptr (encB (byteAt l i))) [] := by
  subst hv
  exact Eff.idxB8 hk h1 h2 h3 (byteAt_get hk hi)
theorem Eff.sliHB {t : Nat} {x hi : Operand} {l : List UInt8} {k e b : Nat} (h : Nat) {k' : IntKind} {v : Int} (hk : k = l.length) (h1 : ρ x = .fv (.sl (l.flatMap encB) k)) (h2 : ρ hi = .fv (.int k' v)) (h3 : lk T.sli t = some (e, 1, b)) (hv : v = (h : Int)) (hh : h ≤ k) : Eff T ρ H d (.slice t x none (some hi) none) (.fv (.sl ((l.take h).flatMap encB) h)) [] := by
  subst hv
  have hl : (l.flatMap encB).length = k * 1 := by rw [flatMap_len encB_len, hk]
  have := Eff.sliH (T := T) (H := H) (d := d) h1 h2 h3 hh hl
  rwa [flatMap_take encB_len] at this
theorem Eff.sliLB {t : Nat} {x lo : Operand} {bs : List UInt8} {k e b : Nat} (l : Nat) {k' : IntKind} {v : Int} (hk : k = bs.length) (h1 : ρ x = .fv (.sl (bs.flatMap encB) k)) (h2 : ρ lo = .fv (.int k' v)) (h3 : lk T.sli t = some (e, 1, b)) (hv : v = (l : Int)) (hh : l ≤ k) : Eff T ρ H d (.slice t x (some lo) none none) (.fv (.sl ((bs.drop l).flatMap encB) (k - l))) [] := by
  subst hv
  have hl : (bs.flatMap encB).length = k * 1 := by rw [flatMap_len encB_len, hk]
  have := Eff.sliL (T := T) (H := H) (d := d) h1 h2 h3 hh hl
  rwa [flatMap_drop encB_len] at this
theorem Eff.sliLHB {t : Nat} {x lo hi : Operand} {bs : List UInt8} {k e b : Nat} (l m : Nat) {k' k2 : IntKind} {v v2 : Int} (hk : k = bs.length) (h1 : ρ x = .fv (.sl (bs.flatMap encB) k)) (h2 : ρ lo = .fv (.int k' v)) (h2' : ρ hi = .fv (.int k2 v2)) (h3 : lk T.sli t = some (e, 1, b)) (hv : v = (l : Int)) (hv2 : v2 = ((l + m : Nat) : Int)) (hh2 : l + m ≤ k) :
    Eff T ρ H d (.slice t x (some lo) (some hi) none) (.fv (.sl (((bs.drop l).take m).flatMap encB) m)) [] := by
  subst hv
  subst hv2
  have hl : (bs.flatMap encB).length = k * 1 := by rw [flatMap_len encB_len, hk]
  have := Eff.sliLH (T := T) (H := H) (d := d) h1 h2 h2' h3 (Nat.le_add_right l m) hh2 hl
  rwa [Nat.add_sub_cancel_left, flatMap_drop encB_len, flatMap_take encB_len] at this
theorem Eff.b2sB {s t : Nat} {x : Operand} {bs : List UInt8} {k e q b : Nat} (h1 : ρ x = .fv (.sl (bs.flatMap encB) k)) (h2 : lk T.sli s = some (e, q, b)) (h3 : lk T.kind e = some .u8) (h4 : lk T.str t = some ()) (hk : k = bs.length) : Eff T ρ H d (.convert s t x) (.fv (.str ⟨bs.toArray⟩)) [] := by
  subst hk
  exact .b2s h1 h2 h3 h4
end
theorem at_T (bs : List UInt8) (k i : Nat) (v : Int) (hk : k = bs.length) (hv : v = (i : Int)) (hi : i + 1 < k) (hl : k ≤ 140737488355328) : Fun Try.prog 87 [.fv (.int .i64 v), .fptr [.sl (bs.flatMap encB) k]] (.fv (.int .i64 (wat bs i : Nat))) := by
  have u1 := (byteAt bs i).toNat_lt
  have u2 := (byteAt bs (i + 1)).toNat_lt
  refine Fun.body tbl_ok Try.func87 rfl (by kernel_rfl) rfl rfl rfl ?_
  repeat' (first
    | (apply X.loE; (· exact aR); (· first | (exact .eff (.idxBI i hk rfl rfl rfl hv (by omega))) | (exact .eff (.idxBI (i + 1) hk rfl rfl rfl (by omega) (by omega))) | (exact .eff (.conv8 rfl rfl rfl)) | (exact .eff (.shlB rfl rfl (by omega))) | (exact .eff (.orB rfl rfl (by omega) (by omega)))))
    | refine X.loc ?_
    | refine nx ?_
    | refine X.cdT ?_
    | refine X.cdF ?_
    | (refine WP.condBit rfl ?_ ?_)
    | (refine WP.cond rfl ?_ ?_ <;> intro hcond)
    | (apply X.gsE; (· exact aR); (· exact aV); (· exact aW); (· intro hc; first | (exact .eff (.idxBI i hk rfl rfl rfl hv (by omega))) | (exact .eff (.idxBI (i + 1) hk rfl rfl rfl (by omega) (by omega))) | (exact .eff (.conv8 rfl rfl rfl)) | (exact .eff (.shlB rfl rfl (by omega))) | (exact .eff (.orB rfl rfl (by omega) (by omega)))); (· exact aR))
    | refine X.gst ?_ | refine X.gld ?_ | refine X.new ?_ | refine X.app ?_ | refine X.appS ?_ | refine X.stoW ?_ | refine X.stoB ?_ | refine X.stoR ?_ | refine X.gand ?_ | refine X.gor ?_
    | refine nd ?_
    | ((with_reducible apply drwK.mk); (· kernel_rfl); (· exact aF))
    | fail)
  refine .f1 (.inl rfl) rfl ?_
  rfl
end Go.Proofs.Ytdbbmjdeeenlhaa

/- Bytes as frames, by the logic of memory. -/
namespace Go.Proofs.Ytdbbmjdeeenlhaa
open Go.RowKit
set_option maxRecDepth 100000

def fr0 : Fr := ⟨0, 0, 0, 0, 0, 0, 0, ByteArray.empty⟩
def decFr (bs : List UInt8) : Fr := ⟨(wat bs 0 : Nat), (wat bs 2 : Nat), ((byteAt bs 4).toNat : Nat), (wat bs 6 : Nat), (wat bs 8 : Nat), ((byteAt bs 5).toNat : Nat), (wat bs 10 : Nat), ⟨((bs.drop 14).take (wat bs 12)).toArray⟩⟩
def decFault (bs : List UInt8) : Int := if bs.length < 16 then 5 else if 40 < wat bs 12 then 1 else if bs.length < 16 + wat bs 12 then 5 else if 16 + wat bs 12 < bs.length then 4
  else if wat bs (14 + wat bs 12) ≠ sumOf (bs.take (14 + wat bs 12)) then 10 else frameFault (decFr bs)
def decR (bs : List UInt8) : Fr := if decFault bs ≠ 0 then fr0 else decFr bs
theorem decR_bad {bs : List UInt8} {e : Int} (h : decFault bs = e) (he : e ≠ 0) : decR bs = fr0 := if_pos (by rw [h]; exact he)
set_option maxHeartbeats 4000000 in
theorem decode_T (bs : List UInt8) (k : Nat) (hk : k = bs.length) (hl : k ≤ 140737488355328) : Fun Try.prog 39 [.fv (.sl (bs.flatMap encB) k)] (.tup [.agg ((encFr (decR bs)).map .fv), .fv (.int .i64 (decFault bs))]) := by
  refine Fun.body tbl_ok Try.func39 rfl (by kernel_rfl) rfl rfl rfl ?_
  by_cases h1 : k < 16
  case pos =>
    have hf : decFault bs = 5 := if_pos (by omega)
    rw [decR_bad hf (by decide), hf]
    repeat' (first
      | refine X.loc ?_
      | refine nx ?_
      | refine X.cdT ?_
      | refine X.cdF ?_
      | (refine WP.condBit rfl ?_ ?_)
      | (refine WP.cond rfl ?_ ?_ <;> intro hcond)
      | refine X.gst ?_ | refine X.gld ?_ | refine X.new ?_ | refine X.app ?_ | refine X.appS ?_ | refine X.stoW ?_ | refine X.stoB ?_ | refine X.stoR ?_ | refine X.gand ?_ | refine X.gor ?_
      | refine nd ?_
      | ((with_reducible apply drwK.mk); (· kernel_rfl); (· exact aF))
      | fail)
    exact .fun (.inl rfl) rfl rfl
  have h1' : ¬ bs.length < 16 := by omega
  have hf := (rfl : decFault bs = decFault bs)
  conv at hf => rhs; unfold decFault
  rw [if_neg h1'] at hf
  have c12 := at_T bs k 12 12 hk rfl (by omega) hl
  have hdec : decFr bs = ⟨(wat bs 0 : Nat), (wat bs 2 : Nat), ((byteAt bs 4).toNat : Nat), (wat bs 6 : Nat), (wat bs 8 : Nat), ((byteAt bs 5).toNat : Nat), (wat bs 10 : Nat), ⟨((bs.drop 14).take (wat bs 12)).toArray⟩⟩ := rfl
  have hdr : ¬ decFault bs ≠ 0 → decR bs = decFr bs := fun h => if_neg h
  have hn := wat_le bs 12
  generalize wat bs 12 = n at *
  by_cases h2 : 40 < n
  case pos =>
    rw [if_pos h2] at hf
    rw [decR_bad hf (by decide), hf]
    repeat' (first
      | (apply X.loE; (· exact aR); (· first | exact .callL rfl rfl rfl (c12) rfl | (apply LEff.callBL; (· rfl); (· rfl); (· exact c12); (· exact aB); (· rfl))))
      | refine X.loc ?_
      | refine nx ?_
      | refine X.cdT ?_
      | refine X.cdF ?_
      | (refine WP.condBit rfl ?_ ?_)
      | (refine WP.cond rfl ?_ ?_ <;> intro hcond)
      | (apply X.gsE; (· exact aR); (· exact aV); (· exact aW); (· intro hc; first | exact .callG rfl rfl rfl (c12) rfl | (apply LEff.callBG; (· rfl); (· rfl); (· exact c12); (· exact aB); (· rfl))); (· exact aR))
      | refine X.gst ?_ | refine X.gld ?_ | refine X.new ?_ | refine X.app ?_ | refine X.appS ?_ | refine X.stoW ?_ | refine X.stoB ?_ | refine X.stoR ?_ | refine X.gand ?_ | refine X.gor ?_
      | refine nd ?_
      | ((with_reducible apply drwK.mk); (· kernel_rfl); (· exact aF))
      | fail)
    exact .fun (.inl rfl) rfl rfl
  rw [if_neg h2] at hf
  by_cases h3 : bs.length < 16 + n
  case pos =>
    rw [if_pos h3] at hf
    rw [decR_bad hf (by decide), hf]
    repeat' (first
      | (apply X.loE; (· exact aR); (· first | exact .callL rfl rfl rfl (c12) rfl | (apply LEff.callBL; (· rfl); (· rfl); (· exact c12); (· exact aB); (· rfl))))
      | refine X.loc ?_
      | refine nx ?_
      | refine X.cdT ?_
      | refine X.cdF ?_
      | (refine WP.condBit rfl ?_ ?_)
      | (refine WP.cond rfl ?_ ?_ <;> intro hcond)
      | (apply X.gsE; (· exact aR); (· exact aV); (· exact aW); (· intro hc; first | exact .callG rfl rfl rfl (c12) rfl | (apply LEff.callBG; (· rfl); (· rfl); (· exact c12); (· exact aB); (· rfl))); (· exact aR))
      | refine X.gst ?_ | refine X.gld ?_ | refine X.new ?_ | refine X.app ?_ | refine X.appS ?_ | refine X.stoW ?_ | refine X.stoB ?_ | refine X.stoR ?_ | refine X.gand ?_ | refine X.gor ?_
      | refine nd ?_
      | ((with_reducible apply drwK.mk); (· kernel_rfl); (· exact aF))
      | fail)
    exact .fun (.inl rfl) rfl rfl
  rw [if_neg h3] at hf
  by_cases h4 : 16 + n < bs.length
  case pos =>
    rw [if_pos h4] at hf
    rw [decR_bad hf (by decide), hf]
    repeat' (first
      | (apply X.loE; (· exact aR); (· first | exact .callL rfl rfl rfl (c12) rfl | (apply LEff.callBL; (· rfl); (· rfl); (· exact c12); (· exact aB); (· rfl))))
      | refine X.loc ?_
      | refine nx ?_
      | refine X.cdT ?_
      | refine X.cdF ?_
      | (refine WP.condBit rfl ?_ ?_)
      | (refine WP.cond rfl ?_ ?_ <;> intro hcond)
      | (apply X.gsE; (· exact aR); (· exact aV); (· exact aW); (· intro hc; first | exact .callG rfl rfl rfl (c12) rfl | (apply LEff.callBG; (· rfl); (· rfl); (· exact c12); (· exact aB); (· rfl))); (· exact aR))
      | refine X.gst ?_ | refine X.gld ?_ | refine X.new ?_ | refine X.app ?_ | refine X.appS ?_ | refine X.stoW ?_ | refine X.stoB ?_ | refine X.stoR ?_ | refine X.gand ?_ | refine X.gor ?_
      | refine nd ?_
      | ((with_reducible apply drwK.mk); (· kernel_rfl); (· exact aF))
      | fail)
    exact .fun (.inl rfl) rfl rfl
  rw [if_neg h4] at hf
  have cn := at_T bs k (14 + n) (14 + (n : Int)) hk (by omega) (by omega) hl
  have cs := sum_T (bs.take (14 + n)) (14 + n) (by rw [List.length_take]; omega) (by omega)
  have c0 := at_T bs k 0 0 hk rfl (by omega) hl
  have c2 := at_T bs k 2 2 hk rfl (by omega) hl
  have c6 := at_T bs k 6 6 hk rfl (by omega) hl
  have c8 := at_T bs k 8 8 hk rfl (by omega) hl
  have c10 := at_T bs k 10 10 hk rfl (by omega) hl
  by_cases h5 : wat bs (14 + n) = sumOf (bs.take (14 + n))
  case neg =>
    rw [if_pos h5] at hf
    rw [decR_bad hf (by decide), hf]
    generalize sumOf (bs.take (14 + n)) = q at *
    generalize wat bs (14 + n) = q2 at *
    repeat' (first
      | (apply X.loE; (· exact aR); (· first | (exact .eff (.sliHB (14 + n) hk rfl rfl rfl (by omega) (by omega))) | exact .callL rfl rfl rfl (by first | exact c12 | exact cn | exact cs) rfl | (apply LEff.callBL; (· rfl); (· rfl); (· exact c12); (· exact aB); (· rfl)) | (apply LEff.callBL; (· rfl); (· rfl); (· exact cn); (· exact aB); (· rfl)) | (apply LEff.callBL; (· rfl); (· rfl); (· exact cs); (· exact aB); (· rfl))))
      | refine X.loc ?_
      | refine nx ?_
      | refine X.cdT ?_
      | refine X.cdF ?_
      | (refine WP.condBit rfl ?_ ?_)
      | (refine WP.cond rfl ?_ ?_ <;> intro hcond)
      | (apply X.gsE; (· exact aR); (· exact aV); (· exact aW); (· intro hc; first | (exact .eff (.sliHB (14 + n) hk rfl rfl rfl (by omega) (by omega))) | exact .callG rfl rfl rfl (by first | exact c12 | exact cn | exact cs) rfl | (apply LEff.callBG; (· rfl); (· rfl); (· exact c12); (· exact aB); (· rfl)) | (apply LEff.callBG; (· rfl); (· rfl); (· exact cn); (· exact aB); (· rfl)) | (apply LEff.callBG; (· rfl); (· rfl); (· exact cs); (· exact aB); (· rfl))); (· exact aR))
      | refine X.gst ?_ | refine X.gld ?_ | refine X.new ?_ | refine X.app ?_ | refine X.appS ?_ | refine X.stoW ?_ | refine X.stoB ?_ | refine X.stoR ?_ | refine X.gand ?_ | refine X.gor ?_
      | refine nd ?_
      | ((with_reducible apply drwK.mk); (· kernel_rfl); (· exact aF))
      | fail)
    exact .fun (.inl rfl) rfl rfl
  rw [if_neg (not_not_intro h5)] at hf
  have hck := wireCheck_T (decFr bs)
  generalize wat bs 0 = w0 at *
  generalize wat bs 2 = w2 at *
  generalize wat bs 6 = w6 at *
  generalize wat bs 8 = w8 at *
  generalize wat bs 10 = w10 at *
  generalize sumOf (bs.take (14 + n)) = q at *
  generalize wat bs (14 + n) = q2 at *
  subst h5
  rw [← hf, hdec] at hck
  repeat' (first
    | (apply X.loE; (· exact aR); (· first | (exact .eff (.sliHB (14 + n) hk rfl rfl rfl (by omega) (by omega))) | (exact .eff (.sliLHB 14 n hk rfl rfl rfl rfl rfl (by omega) (by omega))) | (exact .eff (.idxBI 4 hk rfl rfl rfl rfl (by omega))) | (exact .eff (.idxBI 5 hk rfl rfl rfl rfl (by omega))) | (exact .eff (.conv8 rfl rfl rfl)) | (exact .eff (.b2sB rfl rfl rfl rfl (by simp; omega))) | exact .callL rfl rfl rfl (by first | exact c12 | exact cn | exact cs | exact hck | exact c0 | exact c2 | exact c6 | exact c8 | exact c10) rfl | (apply LEff.callBL; (· rfl); (· rfl); (· exact c12); (· exact aB); (· rfl)) | (apply LEff.callBL; (· rfl); (· rfl); (· exact cn); (· exact aB); (· rfl)) | (apply LEff.callBL; (· rfl); (· rfl); (· exact cs); (· exact aB); (· rfl)) | (apply LEff.callBL; (· rfl); (· rfl); (· exact hck); (· exact aB); (· rfl)) | (apply LEff.callBL; (· rfl); (· rfl); (· exact c0); (· exact aB); (· rfl)) | (apply LEff.callBL; (· rfl); (· rfl); (· exact c2); (· exact aB); (· rfl)) | (apply LEff.callBL; (· rfl); (· rfl); (· exact c6); (· exact aB); (· rfl)) | (apply LEff.callBL; (· rfl); (· rfl); (· exact c8); (· exact aB); (· rfl)) | (apply LEff.callBL; (· rfl); (· rfl); (· exact c10); (· exact aB); (· rfl))))
    | refine X.loc ?_
    | refine nx ?_
    | refine X.cdT ?_
    | refine X.cdF ?_
    | (refine WP.condBit rfl ?_ ?_)
    | (refine WP.cond rfl ?_ ?_ <;> intro hcond)
    | (apply X.gsE; (· exact aR); (· exact aV); (· exact aW); (· intro hc; first | (exact .eff (.sliHB (14 + n) hk rfl rfl rfl (by omega) (by omega))) | (exact .eff (.sliLHB 14 n hk rfl rfl rfl rfl rfl (by omega) (by omega))) | (exact .eff (.idxBI 4 hk rfl rfl rfl rfl (by omega))) | (exact .eff (.idxBI 5 hk rfl rfl rfl rfl (by omega))) | (exact .eff (.conv8 rfl rfl rfl)) | (exact .eff (.b2sB rfl rfl rfl rfl (by simp; omega))) | exact .callG rfl rfl rfl (by first | exact c12 | exact cn | exact cs | exact hck | exact c0 | exact c2 | exact c6 | exact c8 | exact c10) rfl | (apply LEff.callBG; (· rfl); (· rfl); (· exact c12); (· exact aB); (· rfl)) | (apply LEff.callBG; (· rfl); (· rfl); (· exact cn); (· exact aB); (· rfl)) | (apply LEff.callBG; (· rfl); (· rfl); (· exact cs); (· exact aB); (· rfl)) | (apply LEff.callBG; (· rfl); (· rfl); (· exact hck); (· exact aB); (· rfl)) | (apply LEff.callBG; (· rfl); (· rfl); (· exact c0); (· exact aB); (· rfl)) | (apply LEff.callBG; (· rfl); (· rfl); (· exact c2); (· exact aB); (· rfl)) | (apply LEff.callBG; (· rfl); (· rfl); (· exact c6); (· exact aB); (· rfl)) | (apply LEff.callBG; (· rfl); (· rfl); (· exact c8); (· exact aB); (· rfl)) | (apply LEff.callBG; (· rfl); (· rfl); (· exact c10); (· exact aB); (· rfl))); (· exact aR))
    | refine X.gst ?_ | refine X.gld ?_ | refine X.new ?_ | refine X.app ?_ | refine X.appS ?_ | refine X.stoW ?_ | refine X.stoB ?_ | refine X.stoR ?_ | refine X.gand ?_ | refine X.gor ?_
    | refine nd ?_
    | ((with_reducible apply drwK.mk); (· kernel_rfl); (· exact aF))
    | fail)
  · rw [decR_bad rfl (bne_iff_ne.1 hcond)]
    exact .fun (.inl rfl) rfl rfl
  · have h0 : decFault bs = 0 := bne_eq_false_iff_eq.1 hcond
    rw [hdr (not_not_intro h0), h0, hdec]
    exact .fun (.inl rfl) rfl rfl
end Go.Proofs.Ytdbbmjdeeenlhaa

/- Frames out of tunnels, by the logic of memory. -/
namespace Go.Proofs.Ytdbbmjdeeenlhaa
open Go.RowKit
set_option maxRecDepth 100000

def unwFault (bs : List UInt8) : Int := if bs.length < 6 then 5 else if ¬ (byteAt bs 0 = 100 ∧ byteAt bs 1 = 121) then 4 else decFault (bs.drop 6)
def unwN (bs : List UInt8) : Nat := if unwFault bs ≠ 0 then 0 else wat bs 2
def unwT (bs : List UInt8) : Nat := if unwFault bs ≠ 0 then 0 else wat bs 4
def unwR (bs : List UInt8) : Fr := if unwFault bs ≠ 0 then fr0 else decR (bs.drop 6)
theorem unw_bad {bs : List UInt8} {e : Int} (h : unwFault bs = e) (he : e ≠ 0) : unwN bs = 0 ∧ unwT bs = 0 ∧ unwR bs = fr0 := ⟨if_pos (by rw [h]; exact he), if_pos (by rw [h]; exact he), if_pos (by rw [h]; exact he)⟩
theorem u8_ne {a : UInt8} {n : Nat} (hn : n < 256) : ((a.toNat : Int) != (n : Int)) = !decide (a = UInt8.ofNat n) := by
  have h : ((a.toNat : Int) = (n : Int)) ↔ a = UInt8.ofNat n := by
    rw [← UInt8.toNat_inj, UInt8.toNat_ofNat']
    omega
  by_cases e : a = UInt8.ofNat n
  · rw [bne_eq_false_iff_eq.2 (h.2 e), decide_eq_true e]
    rfl
  · rw [bne_iff_ne.2 (fun x => e (h.1 x)), decide_eq_false e]
    rfl
theorem tag_bool (bs : List UInt8) : (((byteAt bs 0).toNat : Int) != 100 || ((byteAt bs 1).toNat : Int) != 121) = !decide (byteAt bs 0 = 100 ∧ byteAt bs 1 = 121) := by
  have v0 : (((byteAt bs 0).toNat : Int) != 100) = !decide (byteAt bs 0 = 100) := u8_ne (n := 100) (by omega)
  have v1 : (((byteAt bs 1).toNat : Int) != 121) = !decide (byteAt bs 1 = 121) := u8_ne (n := 121) (by omega)
  rw [v0, v1]
  by_cases h0 : byteAt bs 0 = 100 <;> by_cases h1 : byteAt bs 1 = 121 <;> simp [h0, h1]
theorem tag_str {bs : List UInt8} (h : 6 ≤ bs.length) : (!((⟨(bs.take 2).toArray⟩ : ByteArray).toList == (⟨#[100, 121]⟩ : ByteArray).toList)) = !decide (byteAt bs 0 = 100 ∧ byteAt bs 1 = 121) := by
  rw [ByteArray.toList_eq, ByteArray.toList_eq]
  have e : bs.take 2 = [byteAt bs 0, byteAt bs 1] := by
    match bs, h with
    | a :: b :: l, _ => rfl
  rw [show (⟨(bs.take 2).toArray⟩ : ByteArray).data.toList = bs.take 2 from by simp, e]
  show (!([byteAt bs 0, byteAt bs 1] == [100, 121])) = _
  congr 1
  by_cases h0 : byteAt bs 0 = 100 <;> by_cases h1 : byteAt bs 1 = 121 <;> simp [h0, h1]
set_option maxHeartbeats 4000000 in
theorem unwrap_T (bs : List UInt8) (k : Nat) (hk : k = bs.length) (hl : k ≤ 140737488355328) : Fun Try.prog 43 [.fv (.sl (bs.flatMap encB) k)] (.tup [.fv (.int .i64 (unwN bs : Nat)), .fv (.int .i64 (unwT bs : Nat)), .agg ((encFr (unwR bs)).map .fv), .fv (.int .i64 (unwFault bs))]) := by
  refine Fun.body tbl_ok Try.func43 rfl (by kernel_rfl) rfl rfl rfl ?_
  by_cases h1 : k < 6
  case pos =>
    have hf : unwFault bs = 5 := if_pos (by omega)
    obtain ⟨e1, e2, e3⟩ := unw_bad hf (by decide)
    rw [e1, e2, e3, hf]
    repeat' (first
      | refine X.loc ?_
      | refine nx ?_
      | refine X.cdT ?_
      | refine X.cdF ?_
      | (refine WP.condBit rfl ?_ ?_)
      | (refine WP.cond rfl ?_ ?_ <;> intro hcond)
      | refine X.gst ?_ | refine X.gld ?_ | refine X.new ?_ | refine X.app ?_ | refine X.appS ?_ | refine X.stoW ?_ | refine X.stoB ?_ | refine X.stoR ?_ | refine X.gand ?_ | refine X.gor ?_
      | refine nd ?_
      | ((with_reducible apply drwK.mk); (· kernel_rfl); (· exact aF))
      | fail)
    exact .fun (.inl rfl) rfl rfl
  have h1' : ¬ bs.length < 6 := by omega
  have hf := (rfl : unwFault bs = unwFault bs)
  conv at hf => rhs; unfold unwFault
  rw [if_neg h1'] at hf
  have htag := tag_bool bs
  have c6 := decode_T (bs.drop 6) (k - 6) (by simp; omega) (by omega)
  have u2 := (byteAt bs 2).toNat_lt
  have u3 := (byteAt bs 3).toNat_lt
  have u4 := (byteAt bs 4).toNat_lt
  have u5 := (byteAt bs 5).toNat_lt
  repeat' (first
    | (apply X.loE; (· exact aR); (· first | (exact .eff (.idxBI 0 hk rfl rfl rfl rfl (by omega))) | (exact .eff (.idxBI 1 hk rfl rfl rfl rfl (by omega))) | (exact .eff (.idxBI 2 hk rfl rfl rfl rfl (by omega))) | (exact .eff (.idxBI 3 hk rfl rfl rfl rfl (by omega))) | (exact .eff (.idxBI 4 hk rfl rfl rfl rfl (by omega))) | (exact .eff (.idxBI 5 hk rfl rfl rfl rfl (by omega))) | (exact .eff (.sliLB 6 hk rfl rfl rfl rfl (by omega))) | (exact .eff (.conv8 rfl rfl rfl)) | (exact .eff (.shlB rfl rfl (by omega))) | (exact .eff (.orB rfl rfl (by omega) (by omega))) | exact .callL rfl rfl rfl (c6) rfl | (apply LEff.callBL; (· rfl); (· rfl); (· exact c6); (· exact aB); (· rfl))))
    | refine X.loc ?_
    | refine nx ?_
    | refine X.cdT ?_
    | refine X.cdF ?_
    | (refine WP.condBit rfl ?_ ?_)
    | (refine WP.cond rfl ?_ ?_ <;> intro hcond)
    | (apply X.gsE; (· exact aR); (· exact aV); (· exact aW); (· intro hc; first | (exact .eff (.idxBI 0 hk rfl rfl rfl rfl (by omega))) | (exact .eff (.idxBI 1 hk rfl rfl rfl rfl (by omega))) | (exact .eff (.idxBI 2 hk rfl rfl rfl rfl (by omega))) | (exact .eff (.idxBI 3 hk rfl rfl rfl rfl (by omega))) | (exact .eff (.idxBI 4 hk rfl rfl rfl rfl (by omega))) | (exact .eff (.idxBI 5 hk rfl rfl rfl rfl (by omega))) | (exact .eff (.sliLB 6 hk rfl rfl rfl rfl (by omega))) | (exact .eff (.conv8 rfl rfl rfl)) | (exact .eff (.shlB rfl rfl (by omega))) | (exact .eff (.orB rfl rfl (by omega) (by omega))) | exact .callG rfl rfl rfl (c6) rfl | (apply LEff.callBG; (· rfl); (· rfl); (· exact c6); (· exact aB); (· rfl))); (· exact aR))
    | refine X.gst ?_ | refine X.gld ?_ | refine X.new ?_ | refine X.app ?_ | refine X.appS ?_ | refine X.stoW ?_ | refine X.stoB ?_ | refine X.stoR ?_ | refine X.gand ?_ | refine X.gor ?_
    | refine nd ?_
    | ((with_reducible apply drwK.mk); (· kernel_rfl); (· exact aF))
    | fail)
  · rw [htag, Bool.not_eq_true', decide_eq_false_iff_not] at hcond
    rw [if_pos hcond] at hf
    obtain ⟨e1, e2, e3⟩ := unw_bad hf (by decide)
    rw [e1, e2, e3, hf]
    exact .fun (.inl rfl) rfl rfl
  · rename_i hc
    rw [htag, Bool.not_eq_false', decide_eq_true_iff] at hc
    rw [if_neg (not_not_intro hc)] at hf
    have hd := bne_iff_ne.1 hcond
    obtain ⟨e1, e2, e3⟩ := unw_bad hf hd
    rw [e1, e2, e3, hf]
    exact .fun (.inl rfl) rfl rfl
  · rename_i hc
    rw [htag, Bool.not_eq_false', decide_eq_true_iff] at hc
    rw [if_neg (not_not_intro hc)] at hf
    have hd := bne_eq_false_iff_eq.1 hcond
    rw [hd] at hf
    have e1 : unwN bs = wat bs 2 := if_neg (by omega)
    have e2 : unwT bs = wat bs 4 := if_neg (by omega)
    have e3 : unwR bs = decR (bs.drop 6) := if_neg (by omega)
    rw [e1, e2, e3, hf]
    exact .fun (.inl rfl) rfl rfl
end Go.Proofs.Ytdbbmjdeeenlhaa

/- Frames wrapped for a tunnel, by the logic of memory. -/
namespace Go.Proofs.Ytdbbmjdeeenlhaa
open Go.RowKit
set_option maxRecDepth 100000

def wrapFault (n t : Int) (f : Fr) : Int := if ¬ (word n = true ∧ word t = true) then 2 else frameFault f
def wrapR (n t : Int) (f : Fr) : List UInt8 := if wrapFault n t f ≠ 0 then [] else [100, 121] ++ be n.toNat ++ be t.toNat ++ bytesF f
theorem nor_words {n t : Int} (h : (!word n || !word t) = true) : ¬ (word n = true ∧ word t = true) := by
  intro h2
  simp [h2.1, h2.2] at h
theorem and_words {n t : Int} (h : (!word n || !word t) = false) : word n = true ∧ word t = true := by
  simpa using h
set_option maxHeartbeats 4000000 in
theorem wrap0_T (n t : Int) (f : Fr) : FunO Try.prog 42 [.fv (.int .i64 n), .fv (.int .i64 t), .agg ((encFr f).map .fv)] [] (.tup [.osl 7, .fv (.int .i64 (wrapFault n t f))]) [(7, .row 5 1 (wrapR n t f).length (((wrapR n t f).flatMap encB).map .fv))] := by
  have h1 := wword_T n
  have h2 := wword_T t
  have h3 := encodeF_T f
  have hbl := bytesF_len f
  refine FunO.body tbl_ok Try.func42 rfl (by kernel_rfl) rfl rfl rfl ?_
  by_cases hw : wrapFault n t f = 0
  case neg =>
    have he : wrapR n t f = [] := if_pos hw
    rw [he]
    repeat' (first
      | (apply X.loE; (· exact aR); (· first | exact .callL rfl rfl rfl (by first | exact h1 | exact h2 | exact h3) rfl | (apply LEff.callBL; (· rfl); (· rfl); (· exact h1); (· exact aB); (· rfl)) | (apply LEff.callBL; (· rfl); (· rfl); (· exact h2); (· exact aB); (· rfl)) | (apply LEff.callBL; (· rfl); (· rfl); (· exact h3); (· exact aB); (· rfl))))
      | refine X.loc ?_
      | refine nx ?_
      | (refine WP.condBit rfl ?_ ?_)
      | (refine WP.cond rfl ?_ ?_ <;> intro hcond)
      | (apply X.gsE; (· exact aR); (· exact aV); (· exact aW); (· intro hc; first | exact .callG rfl rfl rfl (by first | exact h1 | exact h2 | exact h3) rfl | (apply LEff.callBG; (· rfl); (· rfl); (· exact h1); (· exact aB); (· rfl)) | (apply LEff.callBG; (· rfl); (· rfl); (· exact h2); (· exact aB); (· rfl)) | (apply LEff.callBG; (· rfl); (· rfl); (· exact h3); (· exact aB); (· rfl))); (· exact aR))
      | refine X.gst ?_ | refine X.gld ?_ | refine X.new ?_ | refine X.app ?_ | refine X.appS ?_ | refine X.stoW ?_ | refine X.stoB ?_ | refine X.stoR ?_ | refine X.gand ?_ | refine X.gor ?_
      | refine nd ?_
      | ((with_reducible apply drwK.mk); (· kernel_rfl); (· exact aF))
      | fail)
    · refine .ofO (s' := ⟨[(6, .osl 7), (7, .fv (.int .i64 (wrapFault n t f)))], [(7, .row 5 1 0 [])]⟩) (.inl rfl) ?_ rfl rfl rfl
      refine St.to [(7, .nil)] [] rfl rfl ?_ ?_ <;> (repeat' (first | exact tA | refine t1 ?_ | exact tB | refine t2 ?_ ?_ | refine t3 ?_ | refine t4 ?_ ?_ | refine .ofEq ?_ | refine OB.To.cut rfl rfl ?_ ?_ ?_ ?_ | refine OB.To.box rfl rfl ?_ | refine ⟨⟨_, rfl, ?_⟩, ?_⟩ | refine ⟨?_, ?_⟩ | fail))
      all_goals (rw [wrapFault, if_pos (nor_words hcond)])
    · refine .ofO (s' := ⟨[(6, .osl 7), (7, .fv (.int .i64 (wrapFault n t f)))], [(7, .row 5 1 0 [])]⟩) (.inl rfl) ?_ rfl rfl rfl
      refine St.to [(7, .nil)] [] rfl rfl ?_ ?_ <;> (repeat' (first | exact tA | refine t1 ?_ | exact tB | refine t2 ?_ ?_ | refine t3 ?_ | refine t4 ?_ ?_ | refine .ofEq ?_ | refine OB.To.cut rfl rfl ?_ ?_ ?_ ?_ | refine OB.To.box rfl rfl ?_ | refine ⟨⟨_, rfl, ?_⟩, ?_⟩ | refine ⟨?_, ?_⟩ | fail))
      rename_i hc1
      all_goals (rw [wrapFault, if_neg (not_not_intro (and_words hc1))])
    all_goals
      rename_i hc1
      exfalso
      rw [wrapFault, if_neg (not_not_intro (and_words hc1))] at hw
      exact hw (by simpa using hcond)
  case pos =>
    have hnt : word n = true ∧ word t = true := by
      by_cases h : word n = true ∧ word t = true
      · exact h
      · rw [wrapFault, if_pos h] at hw
        omega
    have hf : frameFault f = 0 := by rwa [wrapFault, if_neg (not_not_intro hnt)] at hw
    have he : encF f = bytesF f := if_neg (by omega)
    have he2 : wrapR n t f = [100, 121] ++ be n.toNat ++ be t.toNat ++ bytesF f := if_neg (by omega)
    have hm := (frMay hf).body
    rw [hnt.1] at h1
    rw [hnt.2] at h2
    rw [hf, he] at h3
    rw [hw, he2]
    obtain ⟨n1, rfl⟩ := Int.eq_ofNat_of_zero_le (word_iff.1 hnt.1).1
    obtain ⟨t1, rfl⟩ := Int.eq_ofNat_of_zero_le (word_iff.1 hnt.2).1
    have b1 := (word_iff.1 hnt.1).2
    have b2 := (word_iff.1 hnt.2).2
    generalize bytesF f = q at h3 hbl
    generalize hk : q.length = k at h3 hbl
    repeat' (first
      | (apply X.loE; (· exact aR); (· first | exact .callL rfl rfl rfl (by first | exact h1 | exact h2 | exact h3) rfl | (apply LEff.callBL; (· rfl); (· rfl); (· exact h1); (· exact aB); (· rfl)) | (apply LEff.callBL; (· rfl); (· rfl); (· exact h2); (· exact aB); (· rfl)) | (apply LEff.callBL; (· rfl); (· rfl); (· exact h3); (· exact aB); (· rfl))))
      | refine X.loc ?_
      | refine nx ?_
      | refine X.cdT ?_
      | refine X.cdF ?_
      | (refine WP.condBit rfl ?_ ?_)
      | (refine WP.cond rfl ?_ ?_ <;> intro hcond)
      | (apply X.gsE; (· exact aR); (· exact aV); (· exact aW); (· intro hc; first | exact .callG rfl rfl rfl (by first | exact h1 | exact h2 | exact h3) rfl | (apply LEff.callBG; (· rfl); (· rfl); (· exact h1); (· exact aB); (· rfl)) | (apply LEff.callBG; (· rfl); (· rfl); (· exact h2); (· exact aB); (· rfl)) | (apply LEff.callBG; (· rfl); (· rfl); (· exact h3); (· exact aB); (· rfl))); (· exact aR))
      | refine X.gst ?_ | refine X.gld ?_ | refine X.new ?_ | refine X.app ?_ | refine X.appS ?_ | refine X.stoW ?_ | refine X.stoB ?_ | refine X.stoR ?_ | refine X.gand ?_ | refine X.gor ?_
      | (apply X.cal false; (· exact aR); (· exact two_T [100, 121] 2 n1 rfl (by omega) (by omega)); (· exact aC))
      | (apply X.cal false; (· exact aR); (· exact two_T ([100, 121] ++ be n1) 4 t1 rfl (by omega) (by omega)); (· exact aC))
      | refine nd ?_
      | ((with_reducible apply drwK.mk); (· kernel_rfl); (· exact aF))
      | fail)
    refine .ofO (s' := ⟨[(6, .osl 7), (7, .fv (.int .i64 0))], [(7, .row 5 1 ([100, 121] ++ be n1 ++ be t1 ++ q).length ((([100, 121] ++ be n1 ++ be t1 ++ q).flatMap encB).map .fv))]⟩) (.inl rfl) ?_ rfl rfl rfl
    refine St.to [(7, .id 32)] [] rfl rfl ?_ ?_ <;> (repeat' (first | exact tA | refine t1 ?_ | exact tB | refine t2 ?_ ?_ | refine t3 ?_ | refine t4 ?_ ?_ | refine .ofEq ?_ | refine OB.To.cut rfl rfl ?_ ?_ ?_ ?_ | refine OB.To.box rfl rfl ?_ | refine ⟨⟨_, rfl, ?_⟩, ?_⟩ | refine ⟨?_, ?_⟩ | fail))
    · simp only [List.length_append, be, List.length_cons, List.length_nil, hk]
    · show List.map AV.fv [] ++ _ = _
      rfl
theorem wrap_T (n t : Int) (f : Fr) : Fun Try.prog 42 [.fv (.int .i64 n), .fv (.int .i64 t), .agg ((encFr f).map .fv)] (.tup [.fv (.sl ((wrapR n t f).flatMap encB) (wrapR n t f).length), .fv (.int .i64 (wrapFault n t f))]) :=
  FunO.froz [7] (wrap0_T n t f) (.tup (.cons (.frz rfl rfl rfl) (.cons (.le (.refl _) rfl) .nil)))
end Go.Proofs.Ytdbbmjdeeenlhaa

/- Frames as bytes and back (P1.3, P1.4), and in tunnels: plain laws. -/
namespace Go.Proofs.Ytdbbmjdeeenlhaa

def wt (p : Bool) (k : Nat) (b : UInt8) : Nat := if (p = true ∧ k % 2 = 0) ∨ (p = false ∧ k % 2 = 1) then 256 * b.toNat else b.toNat
theorem raw_set : ∀ (p : Bool) (l : List UInt8) (k : Nat) (b c : UInt8), l[k]? = some b → raw p (l.set k c) + wt p k b = raw p l + wt p k c
  | _, [], _, _, _, h => by simp at h
  | true, x :: l, 0, b, c, h => by
    simp at h
    subst h
    simp [raw, wt]
    omega
  | false, x :: l, 0, b, c, h => by
    simp at h
    subst h
    simp [raw, wt]
    omega
  | true, x :: l, k + 1, b, c, h => by
    have := raw_set false l k b c (by simpa using h)
    have e : ∀ b, wt true (k + 1) b = wt false k b := fun b => by
      simp only [wt]
      by_cases h : k % 2 = 1
      · rw [if_pos (by left; exact ⟨trivial, by omega⟩), if_pos (.inr ⟨trivial, h⟩)]
      · rw [if_neg (by simp; omega), if_neg (by simp; omega)]
    rw [List.set_cons_succ, raw, raw, e, e]
    omega
  | false, x :: l, k + 1, b, c, h => by
    have := raw_set true l k b c (by simpa using h)
    have e : ∀ b, wt false (k + 1) b = wt true k b := fun b => by
      simp only [wt]
      by_cases h : k % 2 = 0
      · rw [if_pos (by right; exact ⟨trivial, by omega⟩), if_pos (.inl ⟨trivial, h⟩)]
      · rw [if_neg (by simp; omega), if_neg (by simp; omega)]
    rw [List.set_cons_succ, raw, raw, e, e]
    omega
theorem sum_set {l : List UInt8} {k : Nat} {b c : UInt8} (h : l[k]? = some b) (hbc : b ≠ c) : sumOf (l.set k c) ≠ sumOf l := by
  have h1 := raw_set true l k b c h
  have hb := b.toNat_lt
  have hc := c.toNat_lt
  have hn : b.toNat ≠ c.toNat := fun h => hbc (UInt8.toNat_inj.1 h)
  have h2 := csum_le (raw true (l.set k c))
  have h3 := csum_le (raw true l)
  intro he
  unfold sumOf at he
  have he : csum (raw true (l.set k c)) = csum (raw true l) := by omega
  have hw : wt true k b ≠ wt true k c ∧ wt true k b ≤ 65280 ∧ wt true k c ≤ 65280 := by
    simp only [wt]
    split <;> refine ⟨?_, ?_, ?_⟩ <;> omega
  unfold csum at he
  split at he <;> split at he <;> omega
theorem byteAt_set {l : List UInt8} {k i : Nat} {c : UInt8} (h : k < l.length) : byteAt (l.set k c) i = if i = k then c else byteAt l i := by
  unfold byteAt
  rw [List.getElem?_set]
  by_cases hk : i = k
  · subst hk; simp [h]
  · rw [if_neg hk, if_neg (fun h => hk h.symm)]
theorem byteAt_app {l m : List UInt8} {i : Nat} (h : i < l.length) : byteAt (l ++ m) i = byteAt l i := by
  unfold byteAt; rw [List.getElem?_append_left h]
theorem byteAt_app2 {l m : List UInt8} {i : Nat} : byteAt (l ++ m) (l.length + i) = byteAt m i := by
  unfold byteAt; rw [List.getElem?_append_right (by omega), Nat.add_sub_cancel_left]
theorem byteAt_take {l : List UInt8} {i j : Nat} (h : i < j) : byteAt (l.take j) i = byteAt l i := by
  unfold byteAt; rw [List.getElem?_take_of_lt h]
theorem byteAt_drop {l : List UInt8} {i j : Nat} : byteAt (l.drop j) i = byteAt l (j + i) := by
  unfold byteAt; rw [List.getElem?_drop]
theorem wat_app {l m : List UInt8} {i : Nat} (h : i + 1 < l.length) : wat (l ++ m) i = wat l i := by
  unfold wat; rw [byteAt_app (by omega), byteAt_app (by omega)]
theorem wat_take {l : List UInt8} {i j : Nat} (h : i + 1 < j) : wat (l.take j) i = wat l i := by
  unfold wat; rw [byteAt_take (by omega), byteAt_take (by omega)]
theorem wat_drop {l : List UInt8} {i j : Nat} : wat (l.drop j) i = wat l (j + i) := by
  unfold wat; rw [byteAt_drop, byteAt_drop, Nat.add_assoc]
theorem be_two {n : Nat} (h : n ≤ 65535) : 256 * (UInt8.ofNat (n / 256)).toNat + (UInt8.ofNat n).toNat = n := by
  rw [UInt8.toNat_ofNat', UInt8.toNat_ofNat']
  omega
theorem wat_be {n : Nat} (h : n ≤ 65535) : wat (be n) 0 = n := be_two h
theorem decFr_eq {n0 n1 n2 n3 n4 n5 n6 : Nat} {s : ByteArray} (h0 : n0 ≤ 65535) (h1 : n1 ≤ 65535) (h2 : n2 ≤ 255) (h3 : n3 ≤ 65535) (h4 : n4 ≤ 65535) (h5 : n5 ≤ 255) (h6 : n6 ≤ 65535) (hs : s.size ≤ 40) (z : List UInt8) :
    decFr (headF ⟨n0, n1, n2, n3, n4, n5, n6, s⟩ ++ z) = ⟨n0, n1, n2, n3, n4, n5, n6, s⟩ ∧ wat (headF ⟨n0, n1, n2, n3, n4, n5, n6, s⟩ ++ z) 12 = s.size := by
  have e : headF ⟨n0, n1, n2, n3, n4, n5, n6, s⟩ ++ z = [UInt8.ofNat (n0 / 256), UInt8.ofNat n0, UInt8.ofNat (n1 / 256), UInt8.ofNat n1, UInt8.ofNat n2, UInt8.ofNat n5, UInt8.ofNat (n3 / 256), UInt8.ofNat n3, UInt8.ofNat (n4 / 256), UInt8.ofNat n4, UInt8.ofNat (n6 / 256), UInt8.ofNat n6, 0, UInt8.ofNat s.size] ++ (s.data.toList ++ z) := by
    simp only [headF, be, Int.toNat_natCast, List.append_assoc]
    rfl
  have e1 : wat (headF ⟨n0, n1, n2, n3, n4, n5, n6, s⟩ ++ z) 12 = s.size := by
    rw [e]
    show 256 * (0 : UInt8).toNat + (UInt8.ofNat s.size).toNat = _
    rw [UInt8.toNat_ofNat']
    simp
    omega
  refine ⟨?_, e1⟩
  unfold decFr
  rw [e1, e]
  have es : (⟨(((([UInt8.ofNat (n0 / 256), UInt8.ofNat n0, UInt8.ofNat (n1 / 256), UInt8.ofNat n1, UInt8.ofNat n2, UInt8.ofNat n5, UInt8.ofNat (n3 / 256), UInt8.ofNat n3, UInt8.ofNat (n4 / 256), UInt8.ofNat n4, UInt8.ofNat (n6 / 256), UInt8.ofNat n6, 0, UInt8.ofNat s.size] ++ (s.data.toList ++ z)).drop 14).take s.size).toArray)⟩ : ByteArray) = s := by
    show (⟨((s.data.toList ++ z).take s.size).toArray⟩ : ByteArray) = s
    rw [List.take_left' (by rw [Array.length_toList]; rfl), Array.toArray_toList]
  rw [es]
  congr 1
  · show ((256 * (UInt8.ofNat (n0 / 256)).toNat + (UInt8.ofNat n0).toNat : Nat) : Int) = _
    rw [be_two h0]
  · show ((256 * (UInt8.ofNat (n1 / 256)).toNat + (UInt8.ofNat n1).toNat : Nat) : Int) = _
    rw [be_two h1]
  · show (((UInt8.ofNat n2).toNat : Nat) : Int) = _
    rw [UInt8.toNat_ofNat']
    omega
  · show ((256 * (UInt8.ofNat (n3 / 256)).toNat + (UInt8.ofNat n3).toNat : Nat) : Int) = _
    rw [be_two h3]
  · show ((256 * (UInt8.ofNat (n4 / 256)).toNat + (UInt8.ofNat n4).toNat : Nat) : Int) = _
    rw [be_two h4]
  · show (((UInt8.ofNat n5).toNat : Nat) : Int) = _
    rw [UInt8.toNat_ofNat']
    omega
  · show ((256 * (UInt8.ofNat (n6 / 256)).toNat + (UInt8.ofNat n6).toNat : Nat) : Int) = _
    rw [be_two h6]
theorem decFr_of {f : Fr} (h : frameFault f = 0) (z : List UInt8) : decFr (headF f ++ z) = f ∧ wat (headF f ++ z) 12 = f.body.size ∧ f.body.size ≤ 40 := by
  have hm := frMay h
  have hs := hm.body
  obtain ⟨n0, n1, n2, n3, n4, n5, n6, e, h0, h1, h2, h3, h4, h5, h6⟩ := fr_nat hm
  obtain ⟨a, b⟩ := decFr_eq h0 h1 h2 h3 h4 h5 h6 hs z
  rw [← e] at a b
  exact ⟨a, b, hs⟩
/-- What is read of the bytes of a frame. -/
theorem dec_enc {f : Fr} (h : frameFault f = 0) : decFault (bytesF f) = 0 ∧ decR (bytesF f) = f := by
  obtain ⟨e1, e2, hs⟩ := decFr_of h (be (sumOf (headF f)))
  have hl := bytesF_len f
  have e3 : wat (bytesF f) (14 + f.body.size) = sumOf (headF f) := by
    rw [bytesF, ← headF_len f]
    unfold wat
    rw [byteAt_app2 (i := 1), ← Nat.add_zero (headF f).length, byteAt_app2 (i := 0)]
    exact be_two (sumOf_le _)
  have e4 : (bytesF f).take (14 + f.body.size) = headF f := by
    rw [bytesF, ← headF_len f, List.take_left']
    rfl
  have e0 : decFault (bytesF f) = 0 := by
    rw [decFault, show wat (bytesF f) 12 = f.body.size from e2, if_neg (by omega), if_neg (by omega), if_neg (by omega), if_neg (by omega), e3, e4, if_neg (by simp), show decFr (bytesF f) = f from e1, h]
  exact ⟨e0, by rw [decR, if_neg (by rw [e0]; simp)]; exact e1⟩
/-- A byte of a frame's bytes is another one: they are not read. -/
theorem dec_spoilt {f : Fr} (h : frameFault f = 0) {k : Nat} (hk : k < (bytesF f).length) {c : UInt8} (hc : c ≠ byteAt (bytesF f) k) : decFault ((bytesF f).set k c) ≠ 0 := by
  obtain ⟨e1, e2, hs⟩ := decFr_of h (be (sumOf (headF f)))
  have e2 : wat (bytesF f) 12 = f.body.size := e2
  have hl := bytesF_len f
  have hh := headF_len f
  have e3 : wat (bytesF f) (14 + f.body.size) = sumOf (headF f) := by
    rw [bytesF, ← headF_len f]
    unfold wat
    rw [byteAt_app2 (i := 1), ← Nat.add_zero (headF f).length, byteAt_app2 (i := 0)]
    exact be_two (sumOf_le _)
  have hb : ∀ i, byteAt ((bytesF f).set k c) i = if i = k then c else byteAt (bytesF f) i := fun i => byteAt_set hk
  have hb2 : (bytesF f)[k]? = some (byteAt (bytesF f) k) := byteAt_get rfl hk
  have hls : ((bytesF f).set k c).length = 16 + f.body.size := by rw [List.length_set, hl]
  intro h0
  unfold decFault at h0
  rw [hls] at h0
  rw [if_neg (by omega)] at h0
  split at h0
  · omega
  split at h0
  · omega
  split at h0
  · omega
  have e5 : wat ((bytesF f).set k c) 12 = f.body.size := by omega
  rw [e5] at h0
  split at h0
  · omega
  rename_i hn
  have hn := Decidable.not_not.1 hn
  rcases Nat.lt_or_ge k (14 + f.body.size) with h6 | h6
  · have e6 : wat ((bytesF f).set k c) (14 + f.body.size) = sumOf (headF f) := by
      rw [← e3]
      unfold wat
      rw [hb, hb, if_neg (by omega), if_neg (by omega)]
    have e7 : ((bytesF f).set k c).take (14 + f.body.size) = (headF f).set k c := by
      rw [bytesF, List.set_append_left _ _ (by omega), ← hh, List.take_left']
      rw [List.length_set]
    rw [e6, e7] at hn
    refine sum_set (b := byteAt (bytesF f) k) ?_ hc.symm hn.symm
    rw [← hb2, bytesF, List.getElem?_append_left (by omega)]
  · have e7 : ((bytesF f).set k c).take (14 + f.body.size) = headF f := by
      rw [List.take_set_of_le h6, bytesF, ← hh, List.take_left']
      rfl
    rw [e7, ← e3] at hn
    unfold wat at hn
    rw [hb, hb] at hn
    have hc2 : c.toNat ≠ (byteAt (bytesF f) k).toNat := fun h => hc (UInt8.toNat_inj.1 h)
    have t1 := c.toNat_lt
    have t2 := (byteAt (bytesF f) (14 + f.body.size)).toNat_lt
    have t3 := (byteAt (bytesF f) (14 + f.body.size + 1)).toNat_lt
    by_cases h7 : 14 + f.body.size = k
    · rw [if_pos h7, if_neg (by omega)] at hn
      rw [← h7] at hc2
      omega
    · have h8 : 14 + f.body.size + 1 = k := by omega
      rw [if_neg h7, if_pos h8] at hn
      rw [← h8] at hc2
      omega
/-- Cut short, they are not read. -/
theorem dec_short {f : Fr} (h : frameFault f = 0) {j : Nat} (hj : j < (bytesF f).length) : decFault ((bytesF f).take j) = 5 := by
  obtain ⟨e1, e2, hs⟩ := decFr_of h (be (sumOf (headF f)))
  have e2 : wat (bytesF f) 12 = f.body.size := e2
  have hl := bytesF_len f
  rw [decFault, List.length_take, Nat.min_eq_left (by omega)]
  split
  · rfl
  rw [wat_take (by omega), e2, if_neg (by omega), if_pos (by omega)]
/-- Longer, they are not read either. -/
theorem dec_long {f : Fr} (h : frameFault f = 0) (c : UInt8) : decFault (bytesF f ++ [c]) = 4 := by
  obtain ⟨e1, e2, hs⟩ := decFr_of h (be (sumOf (headF f)))
  have e2 : wat (bytesF f) 12 = f.body.size := e2
  have hl := bytesF_len f
  rw [decFault, List.length_append, List.length_singleton, if_neg (by omega), wat_app (by omega), e2, if_neg (by omega), if_neg (by omega), if_pos (by omega)]
/-- A frame in a tunnel. -/
theorem unw_wrap {f : Fr} (h : frameFault f = 0) {n t : Nat} (hn : n ≤ 65535) (ht : t ≤ 65535) : wrapFault n t f = 0 ∧ unwFault (wrapR n t f) = 0 ∧ unwN (wrapR n t f) = n ∧ unwT (wrapR n t f) = t ∧ unwR (wrapR n t f) = f ∧ (wrapR n t f).length = 22 + f.body.size := by
  have hw : wrapFault n t f = 0 := by
    rw [wrapFault, if_neg, h]
    simp only [Decidable.not_not]
    exact ⟨word_iff.2 (by omega), word_iff.2 (by omega)⟩
  have hl := bytesF_len f
  have hr : wrapR n t f = [100, 121, UInt8.ofNat (n / 256), UInt8.ofNat n, UInt8.ofNat (t / 256), UInt8.ofNat t] ++ bytesF f := by
    rw [wrapR, if_neg (by rw [hw]; simp)]
    rfl
  obtain ⟨d1, d2⟩ := dec_enc h
  have hd : (wrapR n t f).drop 6 = bytesF f := by rw [hr]; rfl
  have hlw : (wrapR n t f).length = 22 + f.body.size := by rw [hr, List.length_append, hl]; simp; omega
  have h0 : unwFault (wrapR n t f) = 0 := by
    rw [unwFault, if_neg (by omega), hd, d1, hr, if_neg]
    simp only [Decidable.not_not]
    exact ⟨rfl, rfl⟩
  refine ⟨hw, h0, ?_, ?_, ?_, hlw⟩
  · rw [unwN, if_neg (by rw [h0]; simp), hr]
    exact be_two hn
  · rw [unwT, if_neg (by rw [h0]; simp), hr]
    exact be_two ht
  · rw [unwR, if_neg (by rw [h0]; simp), hd, d2]
end Go.Proofs.Ytdbbmjdeeenlhaa

/- Raw numbers and strings that came in, as data by value. -/
namespace Go.Proofs.Ytdbbmjdeeenlhaa
open Go.ChangeShapes Go.WideShapes Go.ChangeAt Go.RowKit Go.Deep
set_option maxRecDepth 100000

def rawLeaves : List Leaf := [.int, .int, .int, .int]
theorem raw_leaves : leaves Try.prog 2 67 = some rawLeaves := by kernel_rfl
theorem raw_leaves3 : leaves Try.prog 3 67 = some rawLeaves := by kernel_rfl
theorem raw_cellsOf : Try.prog.cellsOf 67 = 4 := by kernel_rfl
theorem raw_bytes : Try.prog.bytesOf 67 = 32 := by kernel_rfl
section
variable {H : Type} {enc : TypeId × Value → H} {P : Program} {w : World} {base : Nat} {spare : Nat → Bool} {held : Bool} {Cl : TypeId → DataW H → Prop}
theorem raw_rep {cs : List Value} (h : AllOk enc P w base spare held Cl rawLeaves cs) : ∃ r : Rq, r.Ok ∧ RepF w (encRq r) cs := by
  match cs, h.length with
  | [c0, c1, c2, c3], _ =>
    obtain ⟨⟨a0, rfl, b0⟩, ⟨a1, rfl, b1⟩, ⟨a2, rfl, b2⟩, ⟨a3, rfl, b3⟩, _⟩ := h
    exact ⟨⟨a0, a1, a2, a3⟩, ⟨b0, b1, b2, b3⟩, fun _ => ⟨rfl, rfl, rfl, rfl, trivial⟩⟩
theorem open_raws {v : Value} {d : DataW H} {p : List MemPlace} {r : Reach} {b0 : Nat} (hv : Value.okWide Try.prog w r b0 40 v) (h : DataW.Trod enc Try.prog w base spare held 40 v d p) (hs : SizedCl Try.prog 40 d) :
    ∃ l : List Rq, (∀ x ∈ l, x.Ok) ∧ l.length * 32 ≤ reachBytes ∧ (slOf encRq l).Rep (fun b => b < w.heap.size) w v :=
  open_sl_arg Try.underlying40 raw_leaves raw_cellsOf rfl (by omega) raw_bytes (fun _ h => raw_rep h) hv h hs
theorem open_raw {r : Reach} {b0 : Nat} {v : Value} {d : DataW H} {p : List MemPlace} (hv : Value.okWide Try.prog w r b0 67 v) (h : DataW.Trod enc Try.prog w base spare held 67 v d p) :
    ∃ a : Rq, a.Ok ∧ ∃ cs : List Value, v = .agg cs.toArray ∧ RepF w (encRq a) cs := by
  obtain ⟨cs, rfl, hcs⟩ := open_struct Try.underlying67 raw_leaves3 hv h
  obtain ⟨a, ho, ha⟩ := raw_rep hcs
  exact ⟨a, ho, cs, rfl, ha⟩
end
end Go.Proofs.Ytdbbmjdeeenlhaa
