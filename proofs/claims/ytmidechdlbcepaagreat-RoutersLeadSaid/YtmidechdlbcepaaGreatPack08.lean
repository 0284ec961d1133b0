import Derived.Test.YtmidechdlbcepaaGreatPack03
import Derived.ProofKit
import Derived.OpenShut
import Derived.Deep.Slices
import Derived.JoinedCond
import Derived.SizedLaws
set_option linter.unusedSimpArgs false
set_option linter.unusedVariables false
namespace Go.Proofs.YtmidechdlbcepaaGreat
open Go.ChangeShapes Go.WideShapes Go.ChangeAt Go.RowKit Go.Deep

def I64 (n : Int) : Prop := -9223372036854775808 ≤ n ∧ n ≤ 9223372036854775807

inductive Leaf where
  | int
  | byte
  | bool
  | str
  | slice (t : TypeId)

def leavesFs (go : TypeId → Option (List Leaf)) : List Field → Nat → Option (List Leaf)
  | [], _ => some []
  | f :: fs, off => if f.offset = off then (go f.type).bind fun l => (leavesFs go fs (off + l.length)).map (l ++ ·) else none

def leaves (P : Program) : Nat → TypeId → Option (List Leaf)
  | 0, _ => none
  | n + 1, t =>
    match P.underlying t with
    | some (.int .i64) => some [.int]
    | some (.int .u8) => some [.byte]
    | some .bool => some [.bool]
    | some .string => some [.str]
    | some (.slice _) => some [.slice t]
    | some (.struct fs) => (leavesFs (leaves P n) fs.toList 0).bind fun l => if l.length = P.cellsOf t then some l else none
    | some (.array k e) => (leaves P n e).bind fun l => if l.length = P.cellsOf e ∧ k * l.length = P.cellsOf t then some (List.replicate k l).flatten else none
    | _ => none

section
variable {H : Type} (enc : TypeId × Value → H) (P : Program) (w : World) (base : Nat) (spare : Nat → Bool) (held : Bool) (Cl : TypeId → DataW H → Prop)

def LeafOk : Leaf → Value → Prop
  | .int, v => ∃ n, v = .int .i64 n ∧ I64 n
  | .byte, v => ∃ n, v = .int .u8 n ∧ 0 ≤ n ∧ n ≤ 255
  | .bool, v => ∃ b, v = .bool b
  | .str, v => ∃ s : ByteArray, v = .string s ∧ s.size ≤ maxLen ∧ ∃ t, Cl t (.lit (.string s.data.toList))
  | .slice t, v => ∃ m y, DataW.trod enc P w base spare held m t [v] = some y ∧ Cl t y.1

def AllOk : List Leaf → List Value → Prop
  | [], [] => True
  | l :: ls, v :: vs => LeafOk enc P w base spare held Cl l v ∧ AllOk ls vs
  | _, _ => False

variable {enc P w base spare held Cl}
theorem AllOk.length {ls : List Leaf} : ∀ {vs : List Value}, AllOk enc P w base spare held Cl ls vs → vs.length = ls.length := by
  induction ls with
  | nil => intro vs h; cases vs with
    | nil => rfl
    | cons => exact h.elim
  | cons l ls ih => intro vs h; cases vs with
    | nil => exact h.elim
    | cons v vs => simp [ih h.2]
theorem AllOk.append {ls ms : List Leaf} : ∀ {vs us : List Value}, AllOk enc P w base spare held Cl ls vs → AllOk enc P w base spare held Cl ms us → AllOk enc P w base spare held Cl (ls ++ ms) (vs ++ us) := by
  induction ls with
  | nil => intro vs us h h'; cases vs with
    | nil => exact h'
    | cons => exact h.elim
  | cons l ls ih => intro vs us h h'; cases vs with
    | nil => exact h.elim
    | cons v vs => exact ⟨h.1, ih h.2 h'⟩

def Fr.Ok (f : Fr) : Prop := I64 f.dst ∧ I64 f.src ∧ I64 f.kind ∧ I64 f.ipSrc ∧ I64 f.ipDst ∧ I64 f.ttl ∧ I64 f.port ∧ f.body.size ≤ maxLen
def Pk.Ok (p : Pk) : Prop := I64 p.f0 ∧ I64 p.f1 ∧ I64 p.f2 ∧ I64 p.f3 ∧ I64 p.f4 ∧ I64 p.f5 ∧ I64 p.f6 ∧ I64 p.f7 ∧ I64 p.f8 ∧ I64 p.f9 ∧ p.body.size ≤ maxLen
end
end Go.Proofs.YtmidechdlbcepaaGreat
