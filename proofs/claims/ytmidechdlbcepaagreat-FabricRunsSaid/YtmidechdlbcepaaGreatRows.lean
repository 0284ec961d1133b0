/-
  No cell of these rows narrows 'for every input' (looked for: loops, veiled, ifaces, maps, wideKeys, modest, calm, conditions, laid).
  DERIVED. THE GIVEN ROWS OF THIS SEAT. 14 by the template 'for every input the law returns true; each argument reads behind the call as it read before'; 0 by the template 'total and deterministic' (their statements: YtmidechdlbcepaaGreatTotals.lean).
  GIVEN WITH THE SEED: the statements are not yours to turn. If you find one false, say at which input.
  Laid BY PROGRAM, IN A SANDBOX (cutbox-rows.mjs): the forced cells as the released guide's own fill.sh prints them over the translation 66a2e174968907be… (all of the seat's roots in one cut). By AI agents, Wed Nov 11 2026. No macro, syntax, notation, axiom, sorry.
-/
import Derived.Test.YtmidechdlbcepaaGreatChecked
import GoSem.Claim
import GoSem.ClaimJoined
import GoSem.ClaimMapViews
import Derived.JoinedTies
import Derived.KernelRfl
namespace Go.Proofs.YtmidechdlbcepaaGreat
/- THE CELL 'sum', in the pinned program and in every row, IS THE sha256 OF THE DUMP (.gsa) THAT YtmidechdlbcepaaGreatProg.lean LOADS. Nothing in Lean hashes anything: it is a label: what it is worth is what the hold of that sum in a sandbox is worth. -/
noncomputable def Tryz.pinned : Pinned := { name := "ytmidechdlbcepaagreat", sum := "66a2e174968907be31e7ba307a407f06155b2d2a04adfbb0009c99c9f6f141e3", checked := Tryz.checked }
namespace Rows
def none {H : Type} : Left H := { results := [], args := [] }

/-- 'dyeworkslaw.FabricDelivers': WHATEVER THE INPUT: true; the input reads as it did. -/
def fabricDeliversSpec : ChangeSpec := { name := "fabricDelivers", fn := fun _ => fun
  | [d1, d2, d3] => { results := [.lit (.bool true)], args := [d1, d2, d3] }
  | _ => none }
def fabricDeliversRow : OpenClaim := { program := "ytmidechdlbcepaagreat", sum := "66a2e174968907be31e7ba307a407f06155b2d2a04adfbb0009c99c9f6f141e3", func := "dyeworks/dyeworkslaw.FabricDelivers", spec := "fabricDelivers", unfollowed := true, recurses := true, apart := false }
def FabricDeliversSaid : Prop := fabricDeliversRow.holds Tryz.pinned (OpenSpec.ofChange fabricDeliversSpec)

/-- ITS FALSE NEIGHBOUR: 'it returns false'. Refute it at one input. -/
def fabricDeliversWrong : ChangeSpec := { name := "fabricDelivers", fn := fun _ => fun
  | [d1, d2, d3] => { results := [.lit (.bool false)], args := [d1, d2, d3] }
  | _ => none }
def FabricDeliversWrongFalsely : Prop := fabricDeliversRow.holds Tryz.pinned (OpenSpec.ofChange fabricDeliversWrong)

/-- 'dyeworkskeep.RulesDeny': WHATEVER THE INPUT: true; the input reads as it did. -/
def rulesDenySpec : ChangeSpec := { name := "rulesDeny", fn := fun _ => fun
  | [d1, d2, d3, d4] => { results := [.lit (.bool true)], args := [d1, d2, d3, d4] }
  | _ => none }
def rulesDenyRow : OpenClaim := { program := "ytmidechdlbcepaagreat", sum := "66a2e174968907be31e7ba307a407f06155b2d2a04adfbb0009c99c9f6f141e3", func := "dyeworks/dyeworkskeep.RulesDeny", spec := "rulesDeny", unfollowed := true, recurses := true, apart := false }
def RulesDenySaid : Prop := rulesDenyRow.holds Tryz.pinned (OpenSpec.ofChange rulesDenySpec)

/-- ITS FALSE NEIGHBOUR: 'it returns false'. Refute it at one input. -/
def rulesDenyWrong : ChangeSpec := { name := "rulesDeny", fn := fun _ => fun
  | [d1, d2, d3, d4] => { results := [.lit (.bool false)], args := [d1, d2, d3, d4] }
  | _ => none }
def RulesDenyWrongFalsely : Prop := rulesDenyRow.holds Tryz.pinned (OpenSpec.ofChange rulesDenyWrong)

/-- 'dyeworkskeep.NeighborsTalk': WHATEVER THE INPUT: true; the input reads as it did. -/
def neighborsTalkSpec : ChangeSpec := { name := "neighborsTalk", fn := fun _ => fun
  | [d1, d2, d3] => { results := [.lit (.bool true)], args := [d1, d2, d3] }
  | _ => none }
def neighborsTalkRow : OpenClaim := { program := "ytmidechdlbcepaagreat", sum := "66a2e174968907be31e7ba307a407f06155b2d2a04adfbb0009c99c9f6f141e3", func := "dyeworks/dyeworkskeep.NeighborsTalk", spec := "neighborsTalk", unfollowed := true, recurses := true, apart := false }
def NeighborsTalkSaid : Prop := neighborsTalkRow.holds Tryz.pinned (OpenSpec.ofChange neighborsTalkSpec)

/-- ITS FALSE NEIGHBOUR: 'it returns false'. Refute it at one input. -/
def neighborsTalkWrong : ChangeSpec := { name := "neighborsTalk", fn := fun _ => fun
  | [d1, d2, d3] => { results := [.lit (.bool false)], args := [d1, d2, d3] }
  | _ => none }
def NeighborsTalkWrongFalsely : Prop := neighborsTalkRow.holds Tryz.pinned (OpenSpec.ofChange neighborsTalkWrong)

/-- 'dyeworkskeep.RoutersLead': WHATEVER THE INPUT: true; the input reads as it did. -/
def routersLeadSpec : ChangeSpec := { name := "routersLead", fn := fun _ => fun
  | [d1, d2, d3] => { results := [.lit (.bool true)], args := [d1, d2, d3] }
  | _ => none }
def routersLeadRow : OpenClaim := { program := "ytmidechdlbcepaagreat", sum := "66a2e174968907be31e7ba307a407f06155b2d2a04adfbb0009c99c9f6f141e3", func := "dyeworks/dyeworkskeep.RoutersLead", spec := "routersLead", unfollowed := true, recurses := true, apart := false }
def RoutersLeadSaid : Prop := routersLeadRow.holds Tryz.pinned (OpenSpec.ofChange routersLeadSpec)

/-- ITS FALSE NEIGHBOUR: 'it returns false'. Refute it at one input. -/
def routersLeadWrong : ChangeSpec := { name := "routersLead", fn := fun _ => fun
  | [d1, d2, d3] => { results := [.lit (.bool false)], args := [d1, d2, d3] }
  | _ => none }
def RoutersLeadWrongFalsely : Prop := routersLeadRow.holds Tryz.pinned (OpenSpec.ofChange routersLeadWrong)

/-- 'dyeworkskeep.AsksAnswered': WHATEVER THE INPUT: true; the input reads as it did. -/
def asksAnsweredSpec : ChangeSpec := { name := "asksAnswered", fn := fun _ => fun
  | [d1, d2] => { results := [.lit (.bool true)], args := [d1, d2] }
  | _ => none }
def asksAnsweredRow : OpenClaim := { program := "ytmidechdlbcepaagreat", sum := "66a2e174968907be31e7ba307a407f06155b2d2a04adfbb0009c99c9f6f141e3", func := "dyeworks/dyeworkskeep.AsksAnswered", spec := "asksAnswered", unfollowed := true, recurses := true, apart := false }
def AsksAnsweredSaid : Prop := asksAnsweredRow.holds Tryz.pinned (OpenSpec.ofChange asksAnsweredSpec)

/-- ITS FALSE NEIGHBOUR: 'it returns false'. Refute it at one input. -/
def asksAnsweredWrong : ChangeSpec := { name := "asksAnswered", fn := fun _ => fun
  | [d1, d2] => { results := [.lit (.bool false)], args := [d1, d2] }
  | _ => none }
def AsksAnsweredWrongFalsely : Prop := asksAnsweredRow.holds Tryz.pinned (OpenSpec.ofChange asksAnsweredWrong)

/-- 'dyeworkslaw.FabricRuns': WHATEVER THE INPUT: true; the input reads as it did. -/
def fabricRunsSpec : ChangeSpec := { name := "fabricRuns", fn := fun _ => fun
  | [d] => { results := [.lit (.bool true)], args := [d] }
  | _ => none }
def fabricRunsRow : OpenClaim := { program := "ytmidechdlbcepaagreat", sum := "66a2e174968907be31e7ba307a407f06155b2d2a04adfbb0009c99c9f6f141e3", func := "dyeworks/dyeworkslaw.FabricRuns", spec := "fabricRuns", unfollowed := true, recurses := true, apart := false }
def FabricRunsSaid : Prop := fabricRunsRow.holds Tryz.pinned (OpenSpec.ofChange fabricRunsSpec)

/-- ITS FALSE NEIGHBOUR: 'it returns false'. Refute it at one input. -/
def fabricRunsWrong : ChangeSpec := { name := "fabricRuns", fn := fun _ => fun
  | [d] => { results := [.lit (.bool false)], args := [d] }
  | _ => none }
def FabricRunsWrongFalsely : Prop := fabricRunsRow.holds Tryz.pinned (OpenSpec.ofChange fabricRunsWrong)

/-- 'dyeworkstop.TopTenants': WHATEVER THE INPUT: true; the input reads as it did. -/
def topTenantsSpec : ChangeSpec := { name := "topTenants", fn := fun _ => fun
  | [d1, d2] => { results := [.lit (.bool true)], args := [d1, d2] }
  | _ => none }
def topTenantsRow : OpenClaim := { program := "ytmidechdlbcepaagreat", sum := "66a2e174968907be31e7ba307a407f06155b2d2a04adfbb0009c99c9f6f141e3", func := "dyeworks/dyeworkstop.TopTenants", spec := "topTenants", unfollowed := true, recurses := true, apart := false }
def TopTenantsSaid : Prop := topTenantsRow.holds Tryz.pinned (OpenSpec.ofChange topTenantsSpec)

/-- ITS FALSE NEIGHBOUR: 'it returns false'. Refute it at one input. -/
def topTenantsWrong : ChangeSpec := { name := "topTenants", fn := fun _ => fun
  | [d1, d2] => { results := [.lit (.bool false)], args := [d1, d2] }
  | _ => none }
def TopTenantsWrongFalsely : Prop := topTenantsRow.holds Tryz.pinned (OpenSpec.ofChange topTenantsWrong)

/-- 'dyeworkstop.TopMoves': WHATEVER THE INPUT: true; the input reads as it did. -/
def topMovesSpec : ChangeSpec := { name := "topMoves", fn := fun _ => fun
  | [d1, d2, d3, d4] => { results := [.lit (.bool true)], args := [d1, d2, d3, d4] }
  | _ => none }
def topMovesRow : OpenClaim := { program := "ytmidechdlbcepaagreat", sum := "66a2e174968907be31e7ba307a407f06155b2d2a04adfbb0009c99c9f6f141e3", func := "dyeworks/dyeworkstop.TopMoves", spec := "topMoves", unfollowed := true, recurses := true, apart := false }
def TopMovesSaid : Prop := topMovesRow.holds Tryz.pinned (OpenSpec.ofChange topMovesSpec)

/-- ITS FALSE NEIGHBOUR: 'it returns false'. Refute it at one input. -/
def topMovesWrong : ChangeSpec := { name := "topMoves", fn := fun _ => fun
  | [d1, d2, d3, d4] => { results := [.lit (.bool false)], args := [d1, d2, d3, d4] }
  | _ => none }
def TopMovesWrongFalsely : Prop := topMovesRow.holds Tryz.pinned (OpenSpec.ofChange topMovesWrong)

/-- 'dyeworkstop.TopStale': WHATEVER THE INPUT: true; the input reads as it did. -/
def topStaleSpec : ChangeSpec := { name := "topStale", fn := fun _ => fun
  | [d] => { results := [.lit (.bool true)], args := [d] }
  | _ => none }
def topStaleRow : OpenClaim := { program := "ytmidechdlbcepaagreat", sum := "66a2e174968907be31e7ba307a407f06155b2d2a04adfbb0009c99c9f6f141e3", func := "dyeworks/dyeworkstop.TopStale", spec := "topStale", unfollowed := true, recurses := true, apart := false }
def TopStaleSaid : Prop := topStaleRow.holds Tryz.pinned (OpenSpec.ofChange topStaleSpec)

/-- ITS FALSE NEIGHBOUR: 'it returns false'. Refute it at one input. -/
def topStaleWrong : ChangeSpec := { name := "topStale", fn := fun _ => fun
  | [d] => { results := [.lit (.bool false)], args := [d] }
  | _ => none }
def TopStaleWrongFalsely : Prop := topStaleRow.holds Tryz.pinned (OpenSpec.ofChange topStaleWrong)

/-- 'dyeworkstop.TopSilent': WHATEVER THE INPUT: true; the input reads as it did. -/
def topSilentSpec : ChangeSpec := { name := "topSilent", fn := fun _ => fun
  | [d1, d2] => { results := [.lit (.bool true)], args := [d1, d2] }
  | _ => none }
def topSilentRow : OpenClaim := { program := "ytmidechdlbcepaagreat", sum := "66a2e174968907be31e7ba307a407f06155b2d2a04adfbb0009c99c9f6f141e3", func := "dyeworks/dyeworkstop.TopSilent", spec := "topSilent", unfollowed := true, recurses := true, apart := false }
def TopSilentSaid : Prop := topSilentRow.holds Tryz.pinned (OpenSpec.ofChange topSilentSpec)

/-- ITS FALSE NEIGHBOUR: 'it returns false'. Refute it at one input. -/
def topSilentWrong : ChangeSpec := { name := "topSilent", fn := fun _ => fun
  | [d1, d2] => { results := [.lit (.bool false)], args := [d1, d2] }
  | _ => none }
def TopSilentWrongFalsely : Prop := topSilentRow.holds Tryz.pinned (OpenSpec.ofChange topSilentWrong)

/-- 'dyeworkstop.TopAgain': WHATEVER THE INPUT: true; the input reads as it did. -/
def topAgainSpec : ChangeSpec := { name := "topAgain", fn := fun _ => fun
  | [d1, d2] => { results := [.lit (.bool true)], args := [d1, d2] }
  | _ => none }
def topAgainRow : OpenClaim := { program := "ytmidechdlbcepaagreat", sum := "66a2e174968907be31e7ba307a407f06155b2d2a04adfbb0009c99c9f6f141e3", func := "dyeworks/dyeworkstop.TopAgain", spec := "topAgain", unfollowed := true, recurses := true, apart := false }
def TopAgainSaid : Prop := topAgainRow.holds Tryz.pinned (OpenSpec.ofChange topAgainSpec)

/-- ITS FALSE NEIGHBOUR: 'it returns false'. Refute it at one input. -/
def topAgainWrong : ChangeSpec := { name := "topAgain", fn := fun _ => fun
  | [d1, d2] => { results := [.lit (.bool false)], args := [d1, d2] }
  | _ => none }
def TopAgainWrongFalsely : Prop := topAgainRow.holds Tryz.pinned (OpenSpec.ofChange topAgainWrong)

/-- 'dyeworkstop.TopBad': WHATEVER THE INPUT: true; the input reads as it did. -/
def topBadSpec : ChangeSpec := { name := "topBad", fn := fun _ => fun
  | [d1, d2] => { results := [.lit (.bool true)], args := [d1, d2] }
  | _ => none }
def topBadRow : OpenClaim := { program := "ytmidechdlbcepaagreat", sum := "66a2e174968907be31e7ba307a407f06155b2d2a04adfbb0009c99c9f6f141e3", func := "dyeworks/dyeworkstop.TopBad", spec := "topBad", unfollowed := true, recurses := true, apart := false }
def TopBadSaid : Prop := topBadRow.holds Tryz.pinned (OpenSpec.ofChange topBadSpec)

/-- ITS FALSE NEIGHBOUR: 'it returns false'. Refute it at one input. -/
def topBadWrong : ChangeSpec := { name := "topBad", fn := fun _ => fun
  | [d1, d2] => { results := [.lit (.bool false)], args := [d1, d2] }
  | _ => none }
def TopBadWrongFalsely : Prop := topBadRow.holds Tryz.pinned (OpenSpec.ofChange topBadWrong)

/-- 'dyeworkstop.TopSettled': WHATEVER THE INPUT: true; the input reads as it did. -/
def topSettledSpec : ChangeSpec := { name := "topSettled", fn := fun _ => fun
  | [d1, d2] => { results := [.lit (.bool true)], args := [d1, d2] }
  | _ => none }
def topSettledRow : OpenClaim := { program := "ytmidechdlbcepaagreat", sum := "66a2e174968907be31e7ba307a407f06155b2d2a04adfbb0009c99c9f6f141e3", func := "dyeworks/dyeworkstop.TopSettled", spec := "topSettled", unfollowed := true, recurses := true, apart := false }
def TopSettledSaid : Prop := topSettledRow.holds Tryz.pinned (OpenSpec.ofChange topSettledSpec)

/-- ITS FALSE NEIGHBOUR: 'it returns false'. Refute it at one input. -/
def topSettledWrong : ChangeSpec := { name := "topSettled", fn := fun _ => fun
  | [d1, d2] => { results := [.lit (.bool false)], args := [d1, d2] }
  | _ => none }
def TopSettledWrongFalsely : Prop := topSettledRow.holds Tryz.pinned (OpenSpec.ofChange topSettledWrong)

/-- 'dyeworkstop.TopOrder': WHATEVER THE INPUT: true; the input reads as it did. -/
def topOrderSpec : ChangeSpec := { name := "topOrder", fn := fun _ => fun
  | [d1, d2] => { results := [.lit (.bool true)], args := [d1, d2] }
  | _ => none }
def topOrderRow : OpenClaim := { program := "ytmidechdlbcepaagreat", sum := "66a2e174968907be31e7ba307a407f06155b2d2a04adfbb0009c99c9f6f141e3", func := "dyeworks/dyeworkstop.TopOrder", spec := "topOrder", unfollowed := true, recurses := true, apart := false }
def TopOrderSaid : Prop := topOrderRow.holds Tryz.pinned (OpenSpec.ofChange topOrderSpec)

/-- ITS FALSE NEIGHBOUR: 'it returns false'. Refute it at one input. -/
def topOrderWrong : ChangeSpec := { name := "topOrder", fn := fun _ => fun
  | [d1, d2] => { results := [.lit (.bool false)], args := [d1, d2] }
  | _ => none }
def TopOrderWrongFalsely : Prop := topOrderRow.holds Tryz.pinned (OpenSpec.ofChange topOrderWrong)

/- THE SECOND FORM. 'bulk': how many values and letters a reading holds, each counted each time it is reached (what is shared counts as often as it is met; a slice's spare places count too). A statement '..UptoSaid' is the law's where the arguments, and the package variables that the reading takes, are together of bulk at most 1048576: NARROWER than '..Said'. Prove '..Said' where nothing that the law and all that it calls make is longer than what came in: it says more and counts as full. Else prove '..UptoSaid'. A law counts once. -/
mutual
def uptoBulk {H : Type} : DataW H → Nat
  | .lit (.string bytes) => bytes.length + 1
  | .lit _ => 1
  | .nil => 1
  | .ptr d => uptoBulk d + 1
  | .slice elems spare => uptoBulkAll elems + uptoBulkAll spare + 1
  | .agg parts => uptoBulkAll parts + 1
  | .iface _ d => uptoBulk d + 1
  | .map entries => uptoBulkEntries entries + 1
  | .held _ => 1
def uptoBulkAll {H : Type} : List (DataW H) → Nat
  | [] => 0
  | d :: r => uptoBulk d + uptoBulkAll r
def uptoBulkEntries {H : Type} : List (Lit × DataW H) → Nat
  | [] => 0
  | x :: r => uptoBulkEntry x + uptoBulkEntries r
def uptoBulkEntry {H : Type} : Lit × DataW H → Nat
  | (.string bytes, d) => bytes.length + uptoBulk d + 1
  | (_, d) => uptoBulk d + 1
 end
def uptoSmall : (H : Type) → List (DataW H) → Bool := fun _ ds => decide (uptoBulkAll ds ≤ 1048576)
def OpenSpec.upto (s : _root_.Go.ChangeSpec) : _root_.Go.OpenSpec := { _root_.Go.OpenSpec.ofChange s with cond := some uptoSmall }

/-- 'dyeworkslaw.FabricDelivers', WHERE WHAT IT READS IS OF BULK AT MOST 1048576: true; the input reads as it did. -/
def fabricDeliversUptoRow : OpenClaim := { program := "ytmidechdlbcepaagreat", sum := "66a2e174968907be31e7ba307a407f06155b2d2a04adfbb0009c99c9f6f141e3", func := "dyeworks/dyeworkslaw.FabricDelivers", spec := "fabricDelivers", unfollowed := true, recurses := true, apart := false, narrowed := true }
def FabricDeliversUptoSaid : Prop := fabricDeliversUptoRow.holds Tryz.pinned (OpenSpec.upto fabricDeliversSpec)

/-- 'dyeworkskeep.RulesDeny', WHERE WHAT IT READS IS OF BULK AT MOST 1048576: true; the input reads as it did. -/
def rulesDenyUptoRow : OpenClaim := { program := "ytmidechdlbcepaagreat", sum := "66a2e174968907be31e7ba307a407f06155b2d2a04adfbb0009c99c9f6f141e3", func := "dyeworks/dyeworkskeep.RulesDeny", spec := "rulesDeny", unfollowed := true, recurses := true, apart := false, narrowed := true }
def RulesDenyUptoSaid : Prop := rulesDenyUptoRow.holds Tryz.pinned (OpenSpec.upto rulesDenySpec)

/-- 'dyeworkskeep.NeighborsTalk', WHERE WHAT IT READS IS OF BULK AT MOST 1048576: true; the input reads as it did. -/
def neighborsTalkUptoRow : OpenClaim := { program := "ytmidechdlbcepaagreat", sum := "66a2e174968907be31e7ba307a407f06155b2d2a04adfbb0009c99c9f6f141e3", func := "dyeworks/dyeworkskeep.NeighborsTalk", spec := "neighborsTalk", unfollowed := true, recurses := true, apart := false, narrowed := true }
def NeighborsTalkUptoSaid : Prop := neighborsTalkUptoRow.holds Tryz.pinned (OpenSpec.upto neighborsTalkSpec)

/-- 'dyeworkskeep.RoutersLead', WHERE WHAT IT READS IS OF BULK AT MOST 1048576: true; the input reads as it did. -/
def routersLeadUptoRow : OpenClaim := { program := "ytmidechdlbcepaagreat", sum := "66a2e174968907be31e7ba307a407f06155b2d2a04adfbb0009c99c9f6f141e3", func := "dyeworks/dyeworkskeep.RoutersLead", spec := "routersLead", unfollowed := true, recurses := true, apart := false, narrowed := true }
def RoutersLeadUptoSaid : Prop := routersLeadUptoRow.holds Tryz.pinned (OpenSpec.upto routersLeadSpec)

/-- 'dyeworkskeep.AsksAnswered', WHERE WHAT IT READS IS OF BULK AT MOST 1048576: true; the input reads as it did. -/
def asksAnsweredUptoRow : OpenClaim := { program := "ytmidechdlbcepaagreat", sum := "66a2e174968907be31e7ba307a407f06155b2d2a04adfbb0009c99c9f6f141e3", func := "dyeworks/dyeworkskeep.AsksAnswered", spec := "asksAnswered", unfollowed := true, recurses := true, apart := false, narrowed := true }
def AsksAnsweredUptoSaid : Prop := asksAnsweredUptoRow.holds Tryz.pinned (OpenSpec.upto asksAnsweredSpec)

/-- 'dyeworkslaw.FabricRuns', WHERE WHAT IT READS IS OF BULK AT MOST 1048576: true; the input reads as it did. -/
def fabricRunsUptoRow : OpenClaim := { program := "ytmidechdlbcepaagreat", sum := "66a2e174968907be31e7ba307a407f06155b2d2a04adfbb0009c99c9f6f141e3", func := "dyeworks/dyeworkslaw.FabricRuns", spec := "fabricRuns", unfollowed := true, recurses := true, apart := false, narrowed := true }
def FabricRunsUptoSaid : Prop := fabricRunsUptoRow.holds Tryz.pinned (OpenSpec.upto fabricRunsSpec)

/-- 'dyeworkstop.TopTenants', WHERE WHAT IT READS IS OF BULK AT MOST 1048576: true; the input reads as it did. -/
def topTenantsUptoRow : OpenClaim := { program := "ytmidechdlbcepaagreat", sum := "66a2e174968907be31e7ba307a407f06155b2d2a04adfbb0009c99c9f6f141e3", func := "dyeworks/dyeworkstop.TopTenants", spec := "topTenants", unfollowed := true, recurses := true, apart := false, narrowed := true }
def TopTenantsUptoSaid : Prop := topTenantsUptoRow.holds Tryz.pinned (OpenSpec.upto topTenantsSpec)

/-- 'dyeworkstop.TopMoves', WHERE WHAT IT READS IS OF BULK AT MOST 1048576: true; the input reads as it did. -/
def topMovesUptoRow : OpenClaim := { program := "ytmidechdlbcepaagreat", sum := "66a2e174968907be31e7ba307a407f06155b2d2a04adfbb0009c99c9f6f141e3", func := "dyeworks/dyeworkstop.TopMoves", spec := "topMoves", unfollowed := true, recurses := true, apart := false, narrowed := true }
def TopMovesUptoSaid : Prop := topMovesUptoRow.holds Tryz.pinned (OpenSpec.upto topMovesSpec)

/-- 'dyeworkstop.TopStale', WHERE WHAT IT READS IS OF BULK AT MOST 1048576: true; the input reads as it did. -/
def topStaleUptoRow : OpenClaim := { program := "ytmidechdlbcepaagreat", sum := "66a2e174968907be31e7ba307a407f06155b2d2a04adfbb0009c99c9f6f141e3", func := "dyeworks/dyeworkstop.TopStale", spec := "topStale", unfollowed := true, recurses := true, apart := false, narrowed := true }
def TopStaleUptoSaid : Prop := topStaleUptoRow.holds Tryz.pinned (OpenSpec.upto topStaleSpec)

/-- 'dyeworkstop.TopSilent', WHERE WHAT IT READS IS OF BULK AT MOST 1048576: true; the input reads as it did. -/
def topSilentUptoRow : OpenClaim := { program := "ytmidechdlbcepaagreat", sum := "66a2e174968907be31e7ba307a407f06155b2d2a04adfbb0009c99c9f6f141e3", func := "dyeworks/dyeworkstop.TopSilent", spec := "topSilent", unfollowed := true, recurses := true, apart := false, narrowed := true }
def TopSilentUptoSaid : Prop := topSilentUptoRow.holds Tryz.pinned (OpenSpec.upto topSilentSpec)

/-- 'dyeworkstop.TopAgain', WHERE WHAT IT READS IS OF BULK AT MOST 1048576: true; the input reads as it did. -/
def topAgainUptoRow : OpenClaim := { program := "ytmidechdlbcepaagreat", sum := "66a2e174968907be31e7ba307a407f06155b2d2a04adfbb0009c99c9f6f141e3", func := "dyeworks/dyeworkstop.TopAgain", spec := "topAgain", unfollowed := true, recurses := true, apart := false, narrowed := true }
def TopAgainUptoSaid : Prop := topAgainUptoRow.holds Tryz.pinned (OpenSpec.upto topAgainSpec)

/-- 'dyeworkstop.TopBad', WHERE WHAT IT READS IS OF BULK AT MOST 1048576: true; the input reads as it did. -/
def topBadUptoRow : OpenClaim := { program := "ytmidechdlbcepaagreat", sum := "66a2e174968907be31e7ba307a407f06155b2d2a04adfbb0009c99c9f6f141e3", func := "dyeworks/dyeworkstop.TopBad", spec := "topBad", unfollowed := true, recurses := true, apart := false, narrowed := true }
def TopBadUptoSaid : Prop := topBadUptoRow.holds Tryz.pinned (OpenSpec.upto topBadSpec)

/-- 'dyeworkstop.TopSettled', WHERE WHAT IT READS IS OF BULK AT MOST 1048576: true; the input reads as it did. -/
def topSettledUptoRow : OpenClaim := { program := "ytmidechdlbcepaagreat", sum := "66a2e174968907be31e7ba307a407f06155b2d2a04adfbb0009c99c9f6f141e3", func := "dyeworks/dyeworkstop.TopSettled", spec := "topSettled", unfollowed := true, recurses := true, apart := false, narrowed := true }
def TopSettledUptoSaid : Prop := topSettledUptoRow.holds Tryz.pinned (OpenSpec.upto topSettledSpec)

/-- 'dyeworkstop.TopOrder', WHERE WHAT IT READS IS OF BULK AT MOST 1048576: true; the input reads as it did. -/
def topOrderUptoRow : OpenClaim := { program := "ytmidechdlbcepaagreat", sum := "66a2e174968907be31e7ba307a407f06155b2d2a04adfbb0009c99c9f6f141e3", func := "dyeworks/dyeworkstop.TopOrder", spec := "topOrder", unfollowed := true, recurses := true, apart := false, narrowed := true }
def TopOrderUptoSaid : Prop := topOrderUptoRow.holds Tryz.pinned (OpenSpec.upto topOrderSpec)

end Rows
end Go.Proofs.YtmidechdlbcepaaGreat
