import Derived.Test.YtmidechdlbcepaaGreatRows
import Derived.JoinedOf
import Derived.KernelRfl
set_option linter.unusedSimpArgs false
set_option linter.unusedVariables false
namespace Go.Proofs.YtmidechdlbcepaaGreat
set_option maxRecDepth 100000
def headA : List Char := List.map Char.ofNat [104, 97, 114, 110, 101, 115, 115]
def headB : List Char := List.map Char.ofNat [99, 50, 100, 53, 101, 54, 56, 48, 57, 57, 55, 99, 100, 99, 52, 53, 56, 53, 56, 48, 50, 97, 51, 99, 48, 50, 49, 50, 53, 102, 49, 97, 50, 100, 99, 49, 52, 97, 100, 50, 57, 57, 48, 52, 102, 52, 99, 53, 100, 98, 56, 51, 57, 51, 51, 49, 51, 100, 101, 98, 54, 50, 50, 56]
def headC : List Char := List.map Char.ofNat [99, 117, 116]
def headD : List Char := List.map Char.ofNat [97, 116, 32, 100, 121, 101, 119, 111, 114, 107, 115, 47, 100, 121, 101, 119, 111, 114, 107, 115, 108, 97, 119, 46, 70, 97, 98, 114, 105, 99, 68, 101, 108, 105, 118, 101, 114, 115, 32, 100, 121, 101, 119, 111, 114, 107, 115, 47, 100, 121, 101, 119, 111, 114, 107, 115, 107, 101, 101, 112, 46, 82, 117, 108, 101, 115, 68, 101, 110, 121, 32, 100, 121, 101, 119, 111, 114, 107, 115, 47, 100, 121, 101, 119, 111, 114, 107, 115, 107, 101, 101, 112, 46, 78, 101, 105, 103, 104, 98, 111, 114, 115, 84, 97, 108, 107, 32, 100, 121, 101, 119, 111, 114, 107, 115, 47, 100, 121, 101, 119, 111, 114, 107, 115, 107, 101, 101, 112, 46, 82, 111, 117, 116, 101, 114, 115, 76, 101, 97, 100, 32, 100, 121, 101, 119, 111, 114, 107, 115, 47, 100, 121, 101, 119, 111, 114, 107, 115, 107, 101, 101, 112, 46, 65, 115, 107, 115, 65, 110, 115, 119, 101, 114, 101, 100, 32, 100, 121, 101, 119, 111, 114, 107, 115, 47, 100, 121, 101, 119, 111, 114, 107, 115, 108, 97, 119, 46, 70, 97, 98, 114, 105, 99, 82, 117, 110, 115, 32, 100, 121, 101, 119, 111, 114, 107, 115, 47, 100, 121, 101, 119, 111, 114, 107, 115, 116, 111, 112, 46, 84, 111, 112, 84, 101, 110, 97, 110, 116, 115, 32, 100, 121, 101, 119, 111, 114, 107, 115, 47, 100, 121, 101, 119, 111, 114, 107, 115, 116, 111, 112, 46, 84, 111, 112, 77, 111, 118, 101, 115, 32, 100, 121, 101, 119, 111, 114, 107, 115, 47, 100, 121, 101, 119, 111, 114, 107, 115, 116, 111, 112, 46, 84, 111, 112, 83, 116, 97, 108, 101, 32, 100, 121, 101, 119, 111, 114, 107, 115, 47, 100, 121, 101, 119, 111, 114, 107, 115, 116, 111, 112, 46, 84, 111, 112, 83, 105, 108, 101, 110, 116, 32, 100, 121, 101, 119, 111, 114, 107, 115, 47, 100, 121, 101, 119, 111, 114, 107, 115, 116, 111, 112, 46, 84, 111, 112, 65, 103, 97, 105, 110, 32, 100, 121, 101, 119, 111, 114, 107, 115, 47, 100, 121, 101, 119, 111, 114, 107, 115, 116, 111, 112, 46, 84, 111, 112, 66, 97, 100, 32, 100, 121, 101, 119, 111, 114, 107, 115, 47, 100, 121, 101, 119, 111, 114, 107, 115, 116, 111, 112, 46, 84, 111, 112, 83, 101, 116, 116, 108, 101, 100, 32, 100, 121, 101, 119, 111, 114, 107, 115, 47, 100, 121, 101, 119, 111, 114, 107, 115, 116, 111, 112, 46, 84, 111, 112, 79, 114, 100, 101, 114]
def spaceSign : Char := Char.ofNat 32
theorem head_eq : Tryz.prog.initOrder = String.ofList (headA ++ spaceSign :: (headB ++ spaceSign :: (headC ++ spaceSign :: headD))) := by kernel_rfl
theorem words_cons (w r : List Char) (h : w.all (fun c => !(c == spaceSign)) = true) : wordsSigns (w ++ spaceSign :: r) = w :: wordsSigns r := by
  induction w with
  | nil => rfl
  | cons c w ih =>
    simp only [List.all_cons, Bool.and_eq_true, Bool.not_eq_true', beq_eq_false_iff_ne, ne_eq] at h
    have ih' := ih h.2
    rw [List.cons_append, wordsSigns]
    · rw [ih']
    · intro e
      exact h.1 e
theorem words_head : behindMainWord (wordsSigns Tryz.prog.initOrder.toList) = headC :: wordsSigns headD := by
  rw [head_eq, String.toList_ofList, words_cons headA _ (by decide +kernel), words_cons headB _ (by decide +kernel), words_cons headC _ (by decide +kernel)]
  have e : ((headA == "harness".toList || headA == "ownmain".toList) && isSumSigns headB) = true := by decide +kernel
  unfold behindMainWord
  dsimp only
  rw [e]
  rfl
theorem laysLater_ : Tryz.prog.laysLater = false := by kernel_rfl
theorem bearsReflect_ : Tryz.prog.bearsReflect = false := by kernel_rfl
theorem doorRows_ : Tryz.prog.doorRows = [] := by kernel_rfl
theorem strip_cons (o : String) (os : List String) (w : List Char) (ws : List (List Char)) (h : (w == o.toList) = false) : stripLifts (o :: os) (w :: ws) = stripLifts os (w :: ws) := by
  rw [stripLifts, h]
  simp
theorem strip_ (r : List (List Char)) : stripLifts liftWords (headC :: r) = ([], headC :: r) := by
  unfold liftWords
  iterate 15 rw [strip_cons _ _ _ _ (by decide +kernel)]
  rfl
section
variable {P : Program} {rest : List (List Char)}
theorem mayEnter_of (h : behindMainWord (wordsSigns P.initOrder.toList) = headC :: rest) (h1 : P.laysLater = false) (h2 : P.bearsReflect = false) (h3 : P.doorRows = []) : P.mayEnter = true := by
  have e1 : (headC == "gc".toList) = false := by decide +kernel
  have e2 : (headC == "spec".toList) = false := by decide +kernel
  have e3 : (headC == "carried".toList) = false := by decide +kernel
  have e4 : headC = "cut".toList := by decide +kernel
  have e5 : P.doorFits [] = true := by
    unfold Program.doorFits
    rw [h3]
    rfl
  unfold Program.mayEnter
  rw [h]
  simp only [strip_, h1, h2, e1, e2, e3, e5]
  simp [e4]
theorem headLifts_of (h : behindMainWord (wordsSigns P.initOrder.toList) = headC :: rest) : P.headLifts = [] := by
  unfold Program.headLifts
  rw [h, strip_]
  dsimp only
  split <;> rfl
theorem liftsFinal_of (h : behindMainWord (wordsSigns P.initOrder.toList) = headC :: rest) : (false == P.liftsFinal) = true := by
  have e3 : (headC == "carried".toList) = false := by decide +kernel
  unfold Program.liftsFinal
  rw [h, headLifts_of h]
  simp only [List.head?_cons]
  have e4 : ((some headC : Option (List Char)) == some "carried".toList) = false := e3
  rw [e4]
  rfl
theorem make_of (h : behindMainWord (wordsSigns P.initOrder.toList) = headC :: rest) : (P.make == some Make.cut) = true := by
  have e1 : (headC == "gc".toList) = false := by decide +kernel
  have e2 : (headC == "spec".toList) = false := by decide +kernel
  have e4 : (headC == "cut".toList) = true := by decide +kernel
  have e : P.make = some Make.cut := by
    unfold Program.make
    rw [h]
    simp only [e1, e2, e4]
    rfl
  rw [e]
  rfl
end
theorem mayEnter_ : Tryz.prog.mayEnter = true := mayEnter_of words_head laysLater_ bearsReflect_ doorRows_
theorem liftsFinal_ : (false == Tryz.prog.liftsFinal) = true := liftsFinal_of words_head
theorem make_ : (Tryz.prog.make == some Make.cut) = true := make_of words_head
end Go.Proofs.YtmidechdlbcepaaGreat