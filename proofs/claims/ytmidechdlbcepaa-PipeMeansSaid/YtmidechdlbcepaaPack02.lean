import Derived.Test.YtmidechdlbcepaaRows
import Derived.JoinedOf
import Derived.KernelRfl
set_option linter.unusedSimpArgs false
set_option linter.unusedVariables false
namespace Go.Proofs.Ytmidechdlbcepaa
set_option maxRecDepth 100000
def headA : List Char := List.map Char.ofNat [104, 97, 114, 110, 101, 115, 115]
def headB : List Char := List.map Char.ofNat [56, 57, 99, 101, 102, 52, 57, 98, 97, 52, 52, 49, 99, 101, 98, 101, 56, 53, 101, 100, 57, 56, 99, 50, 101, 57, 55, 101, 48, 102, 53, 52, 48, 53, 48, 49, 97, 56, 101, 102, 49, 98, 100, 48, 57, 52, 97, 50, 51, 98, 101, 48, 50, 48, 52, 56, 48, 52, 100, 49, 102, 97, 55, 102]
def headC : List Char := List.map Char.ofNat [99, 117, 116]
def headD : List Char := List.map Char.ofNat [97, 116, 32, 100, 121, 101, 119, 111, 114, 107, 115, 47, 100, 121, 101, 119, 111, 114, 107, 115, 108, 97, 119, 46, 80, 105, 112, 101, 77, 101, 97, 110, 115, 32, 100, 121, 101, 119, 111, 114, 107, 115, 47, 100, 121, 101, 119, 111, 114, 107, 115, 107, 101, 101, 112, 46, 80, 105, 112, 101, 115, 83, 116, 101, 97, 100, 121]
def spaceSign : Char := Char.ofNat 32
theorem head_eq : Try.prog.initOrder = String.ofList (headA ++ spaceSign :: (headB ++ spaceSign :: (headC ++ spaceSign :: headD))) := by kernel_rfl
theorem words_cons (w r : List Char) (h : w.all (fun c => !(c == spaceSign)) = true) : wordsSigns (w ++ spaceSign :: r) = w :: wordsSigns r := by
  induction w with
  | nil => rfl
  | cons c w ih =>
    simp only [List.all_cons, Bool.and_eq_true, Bool.not_eq_true', beq_eq_false_iff_ne, ne_eq] at h
    have ih' := ih h.2
    rw [List.cons_append, wordsSigns]
    · rw [ih']
    · intro e
      exact h.1 e
theorem words_head : behindMainWord (wordsSigns Try.prog.initOrder.toList) = headC :: wordsSigns headD := by
  rw [head_eq, String.toList_ofList, words_cons headA _ (by decide +kernel), words_cons headB _ (by decide +kernel), words_cons headC _ (by decide +kernel)]
  have e : ((headA == "harness".toList || headA == "ownmain".toList) && isSumSigns headB) = true := by decide +kernel
  unfold behindMainWord
  dsimp only
  rw [e]
  rfl
theorem laysLater_ : Try.prog.laysLater = false := by kernel_rfl
theorem bearsReflect_ : Try.prog.bearsReflect = false := by kernel_rfl
theorem doorRows_ : Try.prog.doorRows = [] := by kernel_rfl
theorem strip_cons (o : String) (os : List String) (w : List Char) (ws : List (List Char)) (h : (w == o.toList) = false) : stripLifts (o :: os) (w :: ws) = stripLifts os (w :: ws) := by
  rw [stripLifts, h]
  simp
theorem strip_ (r : List (List Char)) : stripLifts liftWords (headC :: r) = ([], headC :: r) := by
  unfold liftWords
  iterate 15 rw [strip_cons _ _ _ _ (by decide +kernel)]
  rfl
section
variable {P : Program} {rest : List (List Char)}
theorem mayEnter_of (h : behindMainWord (wordsSigns P.initOrder.toList) = headC :: rest) (h1 : P.laysLater = false) (h2 : P.bearsReflect = false) (h3 : P.doorRows = []) : P.mayEnter = true := by
  have e1 : (headC == "gc".toList) = false := by decide +kernel
  have e2 : (headC == "spec".toList) = false := by decide +kernel
  have e3 : (headC == "carried".toList) = false := by decide +kernel
  have e4 : headC = "cut".toList := by decide +kernel
  have e5 : P.doorFits [] = true := by
    unfold Program.doorFits
    rw [h3]
    rfl
  unfold Program.mayEnter
  rw [h]
  simp only [strip_, h1, h2, e1, e2, e3, e5]
  simp [e4]
theorem headLifts_of (h : behindMainWord (wordsSigns P.initOrder.toList) = headC :: rest) : P.headLifts = [] := by
  unfold Program.headLifts
  rw [h, strip_]
  dsimp only
  split <;> rfl
theorem liftsFinal_of (h : behindMainWord (wordsSigns P.initOrder.toList) = headC :: rest) : (false == P.liftsFinal) = true := by
  have e3 : (headC == "carried".toList) = false := by decide +kernel
  unfold Program.liftsFinal
  rw [h, headLifts_of h]
  simp only [List.head?_cons]
  have e4 : ((some headC : Option (List Char)) == some "carried".toList) = false := e3
  rw [e4]
  rfl
theorem make_of (h : behindMainWord (wordsSigns P.initOrder.toList) = headC :: rest) : (P.make == some Make.cut) = true := by
  have e1 : (headC == "gc".toList) = false := by decide +kernel
  have e2 : (headC == "spec".toList) = false := by decide +kernel
  have e4 : (headC == "cut".toList) = true := by decide +kernel
  have e : P.make = some Make.cut := by
    unfold Program.make
    rw [h]
    simp only [e1, e2, e4]
    rfl
  rw [e]
  rfl
end
theorem mayEnter_ : Try.prog.mayEnter = true := mayEnter_of words_head laysLater_ bearsReflect_ doorRows_
theorem liftsFinal_ : (false == Try.prog.liftsFinal) = true := liftsFinal_of words_head
theorem make_ : (Try.prog.make == some Make.cut) = true := make_of words_head
end Go.Proofs.Ytmidechdlbcepaa
