import Derived.Test.YtmidechdlbcepaaGreatPack15
import Derived.IntWalk
set_option linter.unusedSimpArgs false
set_option linter.unusedVariables false
namespace Go.Proofs.YtmidechdlbcepaaGreat
open Go.RowKit
def binI (op : BinOp) (k : IntKind) (a b : Int) : Option FV :=
  match op with
  | .add => some (.int k (k.wrap (a + b)))
  | .sub => some (.int k (k.wrap (a - b)))
  | .mul => some (.int k (k.wrap (a * b)))
  | .and => some (.int k (bits .and k a b))
  | .or => some (.int k (bits .or k a b))
  | .xor => some (.int k (bits .xor k a b))
  | .andNot => some (.int k (bits .andNot k a b))
  | .eql => some (.bool (a == b))
  | .neq => some (.bool (a != b))
  | .lss => some (.bool (decide (a < b)))
  | .leq => some (.bool (decide (a ≤ b)))
  | .gtr => some (.bool (decide (a > b)))
  | .geq => some (.bool (decide (a ≥ b)))
  | _ => none

def fillA (place : Nat → Option (Nat × Nat)) : List AV → List (Nat × List AV) → Option (List AV)
  | cs, [] => some cs
  | cs, (i, us) :: rest => match place i with
    | some (off, size) => match Nat.beq us.length size with
      | true => match Nat.ble (off + size) cs.length with
        | true => fillA place (cs.take off ++ us ++ cs.drop (off + size)) rest
        | false => none
      | false => none
    | none => none
def cells1 : AV → Option (List AV)
  | .agg cs => some cs
  | .fv f => some [.fv f]
  | .nil => some [.nil]
  | .fptr cs => some [.fptr cs]
  | .optr g o => some [.optr g o]
  | .osl g => some [.osl g]
  | .osb g lo n s => some [.osb g lo n s]
  | .fn f cs => some [.fn f cs]
  | _ => none
theorem cells1_rep {σ : Nat → Value} {Z : Nat → Prop} {w : World} : ∀ {a : AV} {cs : List AV} {v : Value}, cells1 a = some cs → a.Rep σ Z w v → AV.RepL σ Z w cs v.cells.toList
  | .agg cs, _, v, h, hr => by
    obtain rfl := Option.some.inj h
    obtain ⟨arr, rfl, h2⟩ := hr
    exact h2
  | .fv f, _, v, h, hr => by
    obtain rfl := Option.some.inj h
    cases f with
    | int k n => rw [show v = _ from hr]; exact ⟨rfl, trivial⟩
    | bool b => rw [show v = _ from hr]; exact ⟨rfl, trivial⟩
    | str s =>
      have : v = .string s := hr.1
      subst this
      exact ⟨hr, trivial⟩
    | sl cs n =>
      have hr' := hr
      obtain ⟨A, c, rfl, _⟩ := hr'
      exact ⟨hr, trivial⟩
  | .nil, _, v, h, hr => by
    obtain rfl := Option.some.inj h
    have : v = .slice none 0 0 := hr
    subst this
    exact ⟨rfl, trivial⟩
  | .fptr cs, _, v, h, hr => by
    obtain rfl := Option.some.inj h
    have hr' := hr
    obtain ⟨b, off, rfl, _⟩ := hr'
    exact ⟨hr, trivial⟩
  | .optr g o, _, v, h, hr => by
    obtain rfl := Option.some.inj h
    have hr' := hr
    obtain ⟨b, _, rfl⟩ := hr'
    exact ⟨hr, trivial⟩
  | .fn f cs, _, v, h, hr => by
    obtain rfl := Option.some.inj h
    have hr' := hr
    obtain ⟨b, rfl, _⟩ := hr'
    exact ⟨hr, trivial⟩
  | .any, _, _, h, _ => by cases h
  | .bit, _, _, h, _ => by cases h
  | .tup _, _, _, h, _ => by cases h
  | .whn _ _, _, _, h, _ => by cases h
  | .osb _ _ _ _, _, v, h, hr => by
    obtain rfl := Option.some.inj h
    have hr' := hr
    obtain ⟨A, c, _, _, _, rfl, _⟩ := hr'
    exact ⟨hr, trivial⟩
  | .osl _, _, v, h, hr => by
    obtain rfl := Option.some.inj h
    have hr' := hr
    obtain ⟨_, A, n, c, rfl⟩ := hr'
    exact ⟨hr, trivial⟩
def cellsL (ρ : Operand → AV) : List (Nat × Operand) → Option (List (Nat × List AV))
  | [] => some []
  | (i, x) :: l => match cells1 (ρ x) with
    | some cs => match cellsL ρ l with
      | some r => some ((i, cs) :: r)
      | none => none
    | none => none

def dropO : Nat → List AV → Option (List AV)
  | 0, cs => some cs
  | n + 1, _ :: cs => dropO n cs
  | _ + 1, [] => none
theorem dropO_eq : ∀ {n : Nat} {cs cs' : List AV}, dropO n cs = some cs' → cs' = cs.drop n
  | 0, _, _, h => (Option.some.inj h).symm
  | n + 1, _ :: cs, _, h => dropO_eq (n := n) (cs := cs) h
  | _ + 1, [], _, h => by cases h
def readB (T : Tbl) (t : Nat) (cs : List AV) : Option AV :=
  match lk T.one t with
  | some _ => match cs with
    | c :: _ => match c.one with
      | true => some c
      | false => none
    | [] => none
  | none => match lk T.agg t with
    | some n => match Nat.beq n cs.length with
      | true => some (.agg cs)
      | false => match Nat.ble n cs.length with
        | true => some (.agg (cs.take n))
        | false => none
    | none => none

def readA (T : Tbl) (t off : Nat) (cs : List AV) : Option AV :=
  match dropO off cs with
  | some cs' => readB T t cs'
  | none => none
theorem readA_eq {T : Tbl} {t off : Nat} {cs : List AV} {r : AV} (h : readA T t off cs = some r) : readB T t (cs.drop off) = some r := by
  unfold readA at h
  split at h
  · rename_i e; rwa [dropO_eq e] at h
  · cases h
def plainV : List Leaf → List AV → Option (List Value)
  | [], [] => some []
  | .int :: ls, .fv (.int .i64 n) :: as => match plainV ls as with
    | some vs => some (.int .i64 n :: vs)
    | none => none
  | .byte :: ls, .fv (.int .u8 n) :: as => match plainV ls as with
    | some vs => some (.int .u8 n :: vs)
    | none => none
  | .bool :: ls, .fv (.bool b) :: as => match plainV ls as with
    | some vs => some (.bool b :: vs)
    | none => none
  | .str :: ls, .fv (.str s) :: as => match plainV ls as with
    | some vs => some (.string s :: vs)
    | none => none
  | _, _ => none
def sfx (s : ByteArray) (l h : Nat) : ByteArray := s.extract l h
def encB (u : UInt8) : List FV := [.int .u8 u.toNat]
def plainL : List AV → Option (List FV)
  | [] => some []
  | .fv f :: as => match plainL as with
    | some fs => some (f :: fs)
    | none => none
  | .nil :: as => match plainL as with
    | some fs => some (.sl [] 0 :: fs)
    | none => none
  | _ => none
theorem plainL_rep {σ : Nat → Value} {Z : Nat → Prop} {w : World} : ∀ {as : List AV} {fs : List FV} {vs : List Value}, plainL as = some fs → AV.RepL σ Z w as vs → AV.RepL σ Z w (fs.map .fv) vs
  | [], fs, vs, h, hr => by obtain rfl := Option.some.inj h; exact hr
  | .fv f :: as, fs, v :: vs, h, hr => by
    simp only [plainL] at h
    split at h
    · rename_i r e
      obtain rfl := Option.some.inj h
      exact ⟨hr.1, plainL_rep e hr.2⟩
    · cases h
  | .nil :: as, fs, v :: vs, h, hr => by
    simp only [plainL] at h
    split at h
    · rename_i r e
      obtain rfl := Option.some.inj h
      exact ⟨AV.Le.nil _ _ _ _ hr.1, plainL_rep e hr.2⟩
    · cases h
  | .fv _ :: _, _, [], _, hr => hr.elim
  | .nil :: _, _, [], _, hr => hr.elim
def nilT (T : Tbl) (t : Nat) : Bool := match lk T.sli t with
  | some _ => true
  | none => false
def rowLen (H : Own) : AV → Option Nat
  | .nil => some 0
  | .fv (.sl _ n) => some n
  | .osl g => match lk H g with
    | some (.row _ _ n _) => some n
    | _ => none
  | _ => none
inductive Eff (T : Tbl) (ρ : Operand → AV) (H : Own) (d : Nat) : Op → AV → Own → Prop
  | move {x : Operand} : Eff T ρ H d (.move x) (ρ x) []
  | assign {x : Operand} : Eff T ρ H d (.assign x) (ρ x) []
  | or {c x y : Operand} {b b' : Bool} : ρ c = .fv (.bool b) → ρ x = .fv (.bool true) → ρ y = .whn (b = false) (.fv (.bool b')) → Eff T ρ H d (.pick c x y) (.fv (.bool (b || b'))) []
  | and {c x y : Operand} {b b' : Bool} : ρ c = .fv (.bool b) → ρ x = .whn (b = true) (.fv (.bool b')) → ρ y = .fv (.bool false) → Eff T ρ H d (.pick c x y) (.fv (.bool (b && b'))) []
  | bin {op : BinOp} {t u : Nat} {x y : Operand} {k : IntKind} {a b : Int} {r : FV} : ρ x = .fv (.int k a) → ρ y = .fv (.int k b) → binI op k a b = some r → Eff T ρ H d (.binOp op t x y u) (.fv r) []
  | quo {t u : Nat} {x y : Operand} {k : IntKind} {a b : Int} : ρ x = .fv (.int k a) → ρ y = .fv (.int k b) → b ≠ 0 → Eff T ρ H d (.binOp .quo t x y u) (.fv (.int k (k.wrap (a.tdiv b)))) []
  | rem {t u : Nat} {x y : Operand} {k : IntKind} {a b : Int} : ρ x = .fv (.int k a) → ρ y = .fv (.int k b) → b ≠ 0 → Eff T ρ H d (.binOp .rem t x y u) (.fv (.int k (a.tmod b))) []
  | shr {t u : Nat} {x y : Operand} {k k' : IntKind} {a b : Int} : ρ x = .fv (.int k a) → ρ y = .fv (.int k' b) → 0 ≤ b → b ≤ k.bits → Eff T ρ H d (.binOp .shr t x y u) (.fv (.int k (a / 2 ^ b.toNat))) []
  | shl {t u : Nat} {x y : Operand} {k k' : IntKind} {a b : Int} : ρ x = .fv (.int k a) → ρ y = .fv (.int k' b) → 0 ≤ b → b ≤ k.bits → Eff T ρ H d (.binOp .shl t x y u) (.fv (.int k (k.wrap (a * 2 ^ b.toNat)))) []
  | strEq {t u : Nat} {x y : Operand} {a b : ByteArray} : ρ x = .fv (.str a) → ρ y = .fv (.str b) → Eff T ρ H d (.binOp .eql t x y u) (.fv (.bool (a.toList == b.toList))) []
  | strNe {t u : Nat} {x y : Operand} {a b : ByteArray} : ρ x = .fv (.str a) → ρ y = .fv (.str b) → Eff T ρ H d (.binOp .neq t x y u) (.fv (.bool (!(a.toList == b.toList)))) []
  | bEq {t u : Nat} {x y : Operand} {a b : Bool} : ρ x = .fv (.bool a) → ρ y = .fv (.bool b) → lk T.boo t = some () → Eff T ρ H d (.binOp .eql t x y u) (.fv (.bool (a == b))) []
  | bNe {t u : Nat} {x y : Operand} {a b : Bool} : ρ x = .fv (.bool a) → ρ y = .fv (.bool b) → lk T.boo t = some () → Eff T ρ H d (.binOp .neq t x y u) (.fv (.bool (!(a == b)))) []
  | not {t : Nat} {x : Operand} {b : Bool} : ρ x = .fv (.bool b) → Eff T ρ H d (.unOp .not t x) (.fv (.bool (!b))) []
  | neg {t : Nat} {x : Operand} {k : IntKind} {a : Int} : ρ x = .fv (.int k a) → Eff T ρ H d (.unOp .neg t x) (.fv (.int k (k.wrap (0 - a)))) []
  | conv {s t : Nat} {x : Operand} {k k' k'' : IntKind} {a : Int} : ρ x = .fv (.int k a) → lk T.kind t = some k' → lk T.kind s = some k'' → Eff T ρ H d (.convert s t x) (.fv (.int k' (k'.wrap a))) []
  | loadO {t : Nat} {x : Operand} {g off : Nat} {ob : OB} {r : AV} : ρ x = .optr g off → lk H g = some ob → readA T t off ob.cells = some r → Eff T ρ H d (.load t x) r []
  | loadF {t : Nat} {x : Operand} {cs : List FV} {r : AV} : ρ x = .fptr cs → readA T t 0 (cs.map .fv) = some r → Eff T ρ H d (.load t x) r []
  | fldO {t j : Nat} {x : Operand} {g off o : Nat} {fs : List (Nat × Nat)} : ρ x = .optr g off → lk T.fld t = some fs → lk fs j = some o → Eff T ρ H d (.fieldAddr t x j) (.optr g (off + o)) []
  | fldF {t j : Nat} {x : Operand} {cs : List FV} {o : Nat} {fs : List (Nat × Nat)} : ρ x = .fptr cs → lk T.fld t = some fs → lk fs j = some o → Eff T ρ H d (.fieldAddr t x j) (.fptr (cs.drop o)) []
  | idxF {t : Nat} {x y : Operand} {cs : List FV} {n e s b : Nat} {k : IntKind} {i : Int} : ρ x = .fv (.sl cs n) → ρ y = .fv (.int k i) → lk T.sli t = some (e, s, b) → 0 ≤ i → i < n → cs.length = n * s → Eff T ρ H d (.indexAddr t x y) (.fptr ((cs.drop (i.toNat * s)).take s)) []
  | idxO {t : Nat} {x y : Operand} {g : Nat} {cs : List AV} {q n e s b : Nat} {k : IntKind} {i : Int} : ρ x = .osl g → lk H g = some (.row q s n cs) → ρ y = .fv (.int k i) → lk T.sli t = some (e, s, b) → 0 ≤ i → i < n → Eff T ρ H d (.indexAddr t x y) (.optr g (i.toNat * s)) []
  | idxPO {t : Nat} {x y : Operand} {g off n s : Nat} {k : IntKind} {i : Int} : ρ x = .optr g off → ρ y = .fv (.int k i) → lk T.arr t = some (n, s) → 0 ≤ i → i < n → Eff T ρ H d (.indexAddr t x y) (.optr g (off + i.toNat * s)) []
  | idxPF {t : Nat} {x y : Operand} {cs : List FV} {n s : Nat} {k : IntKind} {i : Int} : ρ x = .fptr cs → ρ y = .fv (.int k i) → lk T.arr t = some (n, s) → 0 ≤ i → i < n → Eff T ρ H d (.indexAddr t x y) (.fptr (cs.drop (i.toNat * s))) []
  | lenF {x : Operand} {t : Nat} {cs : List FV} {n : Nat} {q : Nat × Nat × Nat} : ρ x = .fv (.sl cs n) → lk T.sli t = some q → Eff T ρ H d (.call { callee := .builtin .len, args := #[x], argTypes := #[t] }) (.fv (.int .i64 n)) []
  | lenN {x : Operand} {t : Nat} {q : Nat × Nat × Nat} : ρ x = .nil → lk T.sli t = some q → Eff T ρ H d (.call { callee := .builtin .len, args := #[x], argTypes := #[t] }) (.fv (.int .i64 0)) []
  | lenO {x : Operand} {t : Nat} {g : Nat} {e s n : Nat} {cs : List AV} {q : Nat × Nat × Nat} : ρ x = .osl g → lk H g = some (.row e s n cs) → lk T.sli t = some q → Eff T ρ H d (.call { callee := .builtin .len, args := #[x], argTypes := #[t] }) (.fv (.int .i64 n)) []
  | lenS {x : Operand} {t : Nat} {s : ByteArray} : ρ x = .fv (.str s) → lk T.str t = some () → Eff T ρ H d (.call { callee := .builtin .len, args := #[x], argTypes := #[t] }) (.fv (.int .i64 s.size)) []
  | max {x y : Operand} {ts : Array Nat} {k k' : IntKind} {a b : Int} : ρ x = .fv (.int k a) → ρ y = .fv (.int k' b) → Eff T ρ H d (.call { callee := .builtin .max, args := #[x, y], argTypes := ts }) (.fv (.int k (if b > a then b else a))) []
  | min {x y : Operand} {ts : Array Nat} {k k' : IntKind} {a b : Int} : ρ x = .fv (.int k a) → ρ y = .fv (.int k' b) → Eff T ρ H d (.call { callee := .builtin .min, args := #[x, y], argTypes := ts }) (.fv (.int k (if b < a then b else a))) []
  | extract {x : Operand} {i : Nat} {vs : List AV} {r : AV} : ρ x = .tup vs → vs[i]? = some r → Eff T ρ H d (.extract x i) r []
  | mkFn {f : FuncId} {cap : Array Operand} : Eff T ρ H d (.makeFunc (.func f) #[] cap) (.fn f (cap.toList.map ρ)) []
  | nilO {x : Operand} {g off : Nat} : ρ x = .optr g off → Eff T ρ H d (.nilCheck x) (.optr g off) []
  | nilF {x : Operand} {cs : List FV} : ρ x = .fptr cs → Eff T ρ H d (.nilCheck x) (.fptr cs) []
  | build {t : Nat} {parts : Array (Nat × Operand)} {zs cs : List AV} {pl : List (Nat × Nat)} {us : List (Nat × List AV)} : lk T.zero t = some zs → lk T.plc t = some pl → cellsL ρ parts.toList = some us → fillA (pl[·]?) zs us = some cs → Eff T ρ H d (.build t parts) (.agg cs) []
  | eqA {t u : Nat} {x y : Operand} {as bs : List AV} {l : List Leaf} {va vb : List Value} : ρ x = .agg as → ρ y = .agg bs → lk T.eqt t = some l → plainV l as = some va → plainV l bs = some vb → Eff T ρ H d (.binOp .eql t x y u) (.fv (.bool (beqL va vb))) []
  | neA {t u : Nat} {x y : Operand} {as bs : List AV} {l : List Leaf} {va vb : List Value} : ρ x = .agg as → ρ y = .agg bs → lk T.eqt t = some l → plainV l as = some va → plainV l bs = some vb → Eff T ρ H d (.binOp .neq t x y u) (.fv (.bool (!beqL va vb))) []
  | sliLH {t : Nat} {x lo hi : Operand} {cs : List FV} {n e s b : Nat} {l h : Nat} {k k' : IntKind} : ρ x = .fv (.sl cs n) → ρ lo = .fv (.int k l) → ρ hi = .fv (.int k' h) → lk T.sli t = some (e, s, b) → l ≤ h → h ≤ n → cs.length = n * s → Eff T ρ H d (.slice t x (some lo) (some hi) none) (.fv (.sl ((cs.drop (l * s)).take ((h - l) * s)) (h - l))) []
  | sliL {t : Nat} {x lo : Operand} {cs : List FV} {n e s b : Nat} {l : Nat} {k : IntKind} : ρ x = .fv (.sl cs n) → ρ lo = .fv (.int k l) → lk T.sli t = some (e, s, b) → l ≤ n → cs.length = n * s → Eff T ρ H d (.slice t x (some lo) none none) (.fv (.sl (cs.drop (l * s)) (n - l))) []
  | sliH {t : Nat} {x hi : Operand} {cs : List FV} {n e s b : Nat} {h : Nat} {k' : IntKind} : ρ x = .fv (.sl cs n) → ρ hi = .fv (.int k' h) → lk T.sli t = some (e, s, b) → h ≤ n → cs.length = n * s → Eff T ρ H d (.slice t x none (some hi) none) (.fv (.sl (cs.take (h * s)) h)) []
  | zeroS {t : Nat} {x : Operand} {lo : Option Operand} {hi mx : Operand} {a : AV} {e s b n : Nat} {k k' : IntKind} : ρ x = a → rowLen H a = some n → (∀ l, lo = some l → ∃ k, ρ l = .fv (.int k 0)) → ρ hi = .fv (.int k 0) → ρ mx = .fv (.int k' 0) → lk T.sli t = some (e, s, b) → Eff T ρ H d (.slice t x lo (some hi) (some mx)) (.osl d) [(d, .row e s 0 [])]
  | oLH {t : Nat} {x lo hi : Operand} {g q n e s b : Nat} {cs : List AV} {l h : Nat} {k k' : IntKind} : ρ x = .osl g → lk H g = some (.row q s n cs) → ρ lo = .fv (.int k l) → ρ hi = .fv (.int k' h) → lk T.sli t = some (e, s, b) → l ≤ h → h ≤ n → Eff T ρ H d (.slice t x (some lo) (some hi) none) (.osb g l (h - l) s) []
  | oL {t : Nat} {x lo : Operand} {g q n e s b : Nat} {cs : List AV} {l : Nat} {k : IntKind} : ρ x = .osl g → lk H g = some (.row q s n cs) → ρ lo = .fv (.int k l) → lk T.sli t = some (e, s, b) → l ≤ n → Eff T ρ H d (.slice t x (some lo) none none) (.osb g l (n - l) s) []
  | oH {t : Nat} {x hi : Operand} {g q n e s b : Nat} {cs : List AV} {h : Nat} {k' : IntKind} : ρ x = .osl g → lk H g = some (.row q s n cs) → ρ hi = .fv (.int k' h) → lk T.sli t = some (e, s, b) → h ≤ n → Eff T ρ H d (.slice t x none (some hi) none) (.osb g 0 h s) []
  | bLH {t : Nat} {x lo hi : Operand} {g q N l0 n e s b : Nat} {cs : List AV} {l h : Nat} {k k' : IntKind} : ρ x = .osb g l0 n s → lk H g = some (.row q s N cs) → ρ lo = .fv (.int k l) → ρ hi = .fv (.int k' h) → lk T.sli t = some (e, s, b) → l ≤ h → l0 + h ≤ N → Eff T ρ H d (.slice t x (some lo) (some hi) none) (.osb g (l0 + l) (h - l) s) []
  | idxB {t : Nat} {x y : Operand} {g l0 n e s b : Nat} {k : IntKind} {i : Int} : ρ x = .osb g l0 n s → ρ y = .fv (.int k i) → lk T.sli t = some (e, s, b) → 0 ≤ i → i < n → Eff T ρ H d (.indexAddr t x y) (.optr g (l0 * s + i.toNat * s)) []
  | lenB {x : Operand} {t : Nat} {g l0 n s : Nat} {q : Nat × Nat × Nat} : ρ x = .osb g l0 n s → lk T.sli t = some q → Eff T ρ H d (.call { callee := .builtin .len, args := #[x], argTypes := #[t] }) (.fv (.int .i64 n)) []
  | idxV {t e n s : Nat} {x y : Operand} {cs : List AV} {k : IntKind} {i : Int} {r : AV} : ρ x = .agg cs → ρ y = .fv (.int k i) → lk T.ael t = some e → lk T.one e = some () → lk T.arr t = some (n, s) → 0 ≤ i → i < n → cs[i.toNat]? = some r → Eff T ρ H d (.index t x y) r []
  | isNilF {t u e s b : Nat} {x : Operand} {cs : List FV} {n : Nat} : ρ x = .fv (.sl cs n) → 0 < n → lk T.sli t = some (e, s, b) → cs.length = n * s → Eff T ρ H d (.binOp .eql t x (.const (.slice none 0 0)) u) (.fv (.bool false)) []
  | isNilZ {t u : Nat} {x : Operand} {a : AV} : ρ x = a → rowLen H a = some 0 → nilT T t = true → Eff T ρ H d (.binOp .eql t x (.const (.slice none 0 0)) u) .bit []
  | isNilO {t u : Nat} {x : Operand} {g q s n : Nat} {cs : List AV} : ρ x = .osl g → lk H g = some (.row q s n cs) → 0 < n → nilT T t = true → Eff T ρ H d (.binOp .eql t x (.const (.slice none 0 0)) u) (.fv (.bool false)) []
  | mkS {t e s b n : Nat} {x y : Operand} {zs : List AV} {k k' : IntKind} : ρ x = .fv (.int k (n : Int)) → ρ y = .fv (.int k' (n : Int)) → lk T.sli t = some (e, s, b) → lk T.zero e = some zs → b * n ≤ 140737488355328 → n ≤ 140737488355328 → Eff T ρ H d (.makeSlice t x y) (.osl d) [(d, .row e s n ((List.replicate n zs).flatten))]
  | strH {t : Nat} {x hi : Operand} {s : ByteArray} {h : Nat} {k' : IntKind} : ρ x = .fv (.str s) → ρ hi = .fv (.int k' h) → lk T.str t = some () → h ≤ s.size → Eff T ρ H d (.slice t x none (some hi) none) (.fv (.str (sfx s 0 h))) []
  | b2s {s t : Nat} {x : Operand} {bs : List UInt8} {e q b : Nat} : ρ x = .fv (.sl (bs.flatMap encB) bs.length) → lk T.sli s = some (e, q, b) → lk T.kind e = some .u8 → lk T.str t = some () → Eff T ρ H d (.convert s t x) (.fv (.str ⟨bs.toArray⟩)) []
  | b2sN {s t : Nat} {x : Operand} {e q b : Nat} : ρ x = .nil → lk T.sli s = some (e, q, b) → lk T.kind e = some .u8 → lk T.str t = some () → Eff T ρ H d (.convert s t x) (.fv (.str ⟨#[]⟩)) []
  | bslice {t n e s b : Nat} {parts : Array (Nat × Operand)} {zs cs : List AV} {us : List (Nat × List AV)} : lk T.sli t = some (e, s, b) → lk T.zero e = some zs → cellsL ρ parts.toList = some us → fillA (fun i => some (i * s, s)) ((List.replicate n zs).flatten) us = some cs → Nat.ble (n * s) 100000 = true → Eff T ρ H d (.buildSlice t n parts) (.osl d) [(d, .row e s n cs)]
  | bsliceF {t n e s b : Nat} {parts : Array (Nat × Operand)} {zs cs : List AV} {us : List (Nat × List AV)} {fs : List FV} : lk T.sli t = some (e, s, b) → lk T.zero e = some zs → cellsL ρ parts.toList = some us → fillA (fun i => some (i * s, s)) ((List.replicate n zs).flatten) us = some cs → Nat.ble (n * s) 100000 = true → plainL cs = some fs → Eff T ρ H d (.buildSlice t n parts) (.fv (.sl fs n)) []
  | box {t : Nat} {x : Operand} {cs : List AV} : cells1 (ρ x) = some cs → Eff T ρ H d (.box t x) (.optr d 0) [(d, .box t cs)]
  | alloc {t : Nat} {cs : List AV} : lk T.zero t = some cs → Eff T ρ H d (.alloc t) (.optr d 0) [(d, .box t cs)]

section
variable {P : Program} {T : Tbl} {C : Ctx} {own : Own} {σ : Nat → Value} {Z : Nat → Prop} {w : World} {a : Act} {ρ : Operand → AV} {d : Nat} {r : AV} {A : Own} {o : Oper}
  {K : Act → World → Prop} {Q : Exit → Act → World → Prop}

theorem snd_val {v : Value} (hE : ∀ w, (execOp a.eval o).run P w = .ok (.value v) w) (hI : Inv C own σ Z w)
    (hK : ∀ v w' σ' Z', Inv C ([] ++ own) σ' Z' w' → (∀ b, Z b → Z' b) → Keeps Z w w' → (∀ g, (∀ p ∈ ([] : Own), p.1 ≠ g) → σ' g = σ g) → r.Rep σ' Z' w' v → K (a.put o.dst v) w') (hv : r.Rep σ Z w v) : o.wp P a w K Q :=
  wp_val (hE w) (hK v w σ Z hI (fun _ h => h) (fun _ _ => rfl) (fun _ _ => rfl) hv)

theorem readB_sound {t : Nat} {cs : List AV} {us : List Value} {b off : Nat} (hT : T.Ok P) (h : readB T t cs = some r) (hr : AV.RepL σ Z w cs us) (hc : ∀ j u, us[j]? = some u → w.cell? ⟨b, off + j, none⟩ = some u) :
    ∃ v, (Instr.loadAt t (.pointer (some ⟨b, off, none⟩))).run P w = .ok v w ∧ r.Rep σ Z w v := by
  unfold readB at h
  split at h
  · rename_i u hu
    split at h
    · rename_i c cs'
      split at h
      · obtain rfl := Option.some.inj h
        cases us with
        | nil => exact hr.elim
        | cons u us => exact ⟨u, run_load_one (tbl_lk hT.one hu) (hc 0 u rfl), hr.1⟩
      · cases h
    · cases h
  · split at h
    · rename_i n hn
      split at h
      · rename_i hle
        obtain rfl := Option.some.inj h
        have hle := Nat.eq_of_beq_eq_true hle
        have hlen := hr.length
        exact ⟨.agg us.toArray, run_load_agg (tbl_lk hT.agg hn) (by omega) hc, _, rfl, by simpa using hr⟩
      split at h
      · rename_i hle
        obtain rfl := Option.some.inj h
        have hle := Nat.le_of_ble_eq_true hle
        have hlen := hr.length
        refine ⟨.agg (us.take n).toArray, run_load_agg (tbl_lk hT.agg hn) (by simp; omega) (fun j u hj => hc j u ?_), _, rfl, by simpa using hr.take n⟩
        rw [List.getElem?_take] at hj
        split at hj
        · exact hj
        · cases hj
      · cases h
    · cases h

theorem box_cells {t : Nat} {cs : List AV} {g b : Nat} (h : (OB.box t cs).Rep σ Z w (σ g)) (hb : blk (σ g) = some b) : ∃ us : List Value, AV.RepL σ Z w cs us ∧ ∀ j u, us[j]? = some u → w.cell? ⟨b, j, none⟩ = some u := by
  obtain ⟨b', arr, h1, h2, h3⟩ := h
  rw [h1] at hb
  obtain rfl : b' = b := by simpa [blk] using hb
  exact ⟨arr.toList, h3, fun j u hj => by rw [cell_of_row w b' j arr t (0, 0) h2]; simpa using hj⟩
theorem ob_cells {ob : OB} {g b : Nat} (h : ob.Rep σ Z w (σ g)) (hb : blk (σ g) = some b) : ∃ us : List Value, AV.RepL σ Z w ob.cells us ∧ ∀ j u, us[j]? = some u → w.cell? ⟨b, j, none⟩ = some u := by
  cases ob with
  | box t cs => exact box_cells h hb
  | row t size n cs =>
    obtain ⟨xs, h1, h2⟩ := h
    refine ⟨xs, h2, fun j u hj => ?_⟩
    rcases h1.2 with ⟨_, A, e⟩ | ⟨g', cap, cur, e, hc, ha, _, _, _, hx⟩
    · rw [e, blk_zero] at hb; cases hb
    · rw [e, blk_slice hc] at hb
      obtain rfl := Option.some.inj hb
      subst hx
      rw [cell_of_row w g' j cur t (0, 0) ha]
      rw [List.getElem?_take] at hj
      split at hj
      · simpa using hj
      · cases hj
end
end Go.Proofs.YtmidechdlbcepaaGreat