/-
  No cell of these rows narrows 'for every input' (looked for: loops, veiled, ifaces, maps, wideKeys, modest, calm, conditions, laid).
  DERIVED. THE GIVEN ROWS OF THIS SEAT. 14 by the template 'for every input the law returns true; each argument reads behind the call as it read before'; 0 by the template 'total and deterministic' (their statements: YtdbbmjdeeenlhaaTotals.lean).
  GIVEN WITH THE SEED: the statements are not yours to turn. If you find one false, say at which input.
  Laid BY PROGRAM, IN A SANDBOX (cutbox-rows.mjs): the forced cells as the released guide's own fill.sh prints them over the translation 60034a3e6571d14a… (all of the seat's roots in one cut). By AI agents, Wed Nov 11 2026. No macro, syntax, notation, axiom, sorry.
-/
import Derived.Test.YtdbbmjdeeenlhaaChecked
import GoSem.Claim
import GoSem.ClaimJoined
import GoSem.ClaimMapViews
import Derived.JoinedTies
import Derived.KernelRfl
namespace Go.Proofs.Ytdbbmjdeeenlhaa
/- THE CELL 'sum', in the pinned program and in every row, IS THE sha256 OF THE DUMP (.gsa) THAT YtdbbmjdeeenlhaaProg.lean LOADS. Nothing in Lean hashes anything: it is a label: what it is worth is what the hold of that sum in a sandbox is worth. -/
noncomputable def Try.pinned : Pinned := { name := "ytdbbmjdeeenlhaa", sum := "60034a3e6571d14a376c49eeb215616eb62cd2f293ae4d4460fee5359bdc1256", checked := Try.checked }
namespace Rows
def none {H : Type} : Left H := { results := [], args := [] }

/-- 'dyeworkskeep.RunsEnd': WHATEVER THE INPUT: true; the input reads as it did. -/
def runsEndSpec : ChangeSpec := { name := "runsEnd", fn := fun _ => fun
  | [d] => { results := [.lit (.bool true)], args := [d] }
  | _ => none }
def runsEndRow : OpenClaim := { program := "ytdbbmjdeeenlhaa", sum := "60034a3e6571d14a376c49eeb215616eb62cd2f293ae4d4460fee5359bdc1256", func := "dyeworks/dyeworkskeep.RunsEnd", spec := "runsEnd", unfollowed := true, recurses := true, apart := false }
def RunsEndSaid : Prop := runsEndRow.holds Try.pinned (OpenSpec.ofChange runsEndSpec)

/-- ITS FALSE NEIGHBOUR: 'it returns false'. Refute it at one input. -/
def runsEndWrong : ChangeSpec := { name := "runsEnd", fn := fun _ => fun
  | [d] => { results := [.lit (.bool false)], args := [d] }
  | _ => none }
def RunsEndWrongFalsely : Prop := runsEndRow.holds Try.pinned (OpenSpec.ofChange runsEndWrong)

/-- 'dyeworkskeep.RunsFirst': WHATEVER THE INPUT: true; the input reads as it did. -/
def runsFirstSpec : ChangeSpec := { name := "runsFirst", fn := fun _ => fun
  | [d1, d2] => { results := [.lit (.bool true)], args := [d1, d2] }
  | _ => none }
def runsFirstRow : OpenClaim := { program := "ytdbbmjdeeenlhaa", sum := "60034a3e6571d14a376c49eeb215616eb62cd2f293ae4d4460fee5359bdc1256", func := "dyeworks/dyeworkskeep.RunsFirst", spec := "runsFirst", unfollowed := true, recurses := true, apart := false }
def RunsFirstSaid : Prop := runsFirstRow.holds Try.pinned (OpenSpec.ofChange runsFirstSpec)

/-- ITS FALSE NEIGHBOUR: 'it returns false'. Refute it at one input. -/
def runsFirstWrong : ChangeSpec := { name := "runsFirst", fn := fun _ => fun
  | [d1, d2] => { results := [.lit (.bool false)], args := [d1, d2] }
  | _ => none }
def RunsFirstWrongFalsely : Prop := runsFirstRow.holds Try.pinned (OpenSpec.ofChange runsFirstWrong)

/-- 'dyeworkslaw.ConfApplies': WHATEVER THE INPUT: true; the input reads as it did. -/
def confAppliesSpec : ChangeSpec := { name := "confApplies", fn := fun _ => fun
  | [d1, d2] => { results := [.lit (.bool true)], args := [d1, d2] }
  | _ => none }
def confAppliesRow : OpenClaim := { program := "ytdbbmjdeeenlhaa", sum := "60034a3e6571d14a376c49eeb215616eb62cd2f293ae4d4460fee5359bdc1256", func := "dyeworks/dyeworkslaw.ConfApplies", spec := "confApplies", unfollowed := true, recurses := true, apart := false }
def ConfAppliesSaid : Prop := confAppliesRow.holds Try.pinned (OpenSpec.ofChange confAppliesSpec)

/-- ITS FALSE NEIGHBOUR: 'it returns false'. Refute it at one input. -/
def confAppliesWrong : ChangeSpec := { name := "confApplies", fn := fun _ => fun
  | [d1, d2] => { results := [.lit (.bool false)], args := [d1, d2] }
  | _ => none }
def ConfAppliesWrongFalsely : Prop := confAppliesRow.holds Try.pinned (OpenSpec.ofChange confAppliesWrong)

/-- 'dyeworkskeep.ConfsGood': WHATEVER THE INPUT: true; the input reads as it did. -/
def confsGoodSpec : ChangeSpec := { name := "confsGood", fn := fun _ => fun
  | [d1, d2] => { results := [.lit (.bool true)], args := [d1, d2] }
  | _ => none }
def confsGoodRow : OpenClaim := { program := "ytdbbmjdeeenlhaa", sum := "60034a3e6571d14a376c49eeb215616eb62cd2f293ae4d4460fee5359bdc1256", func := "dyeworks/dyeworkskeep.ConfsGood", spec := "confsGood", unfollowed := true, recurses := true, apart := false }
def ConfsGoodSaid : Prop := confsGoodRow.holds Try.pinned (OpenSpec.ofChange confsGoodSpec)

/-- ITS FALSE NEIGHBOUR: 'it returns false'. Refute it at one input. -/
def confsGoodWrong : ChangeSpec := { name := "confsGood", fn := fun _ => fun
  | [d1, d2] => { results := [.lit (.bool false)], args := [d1, d2] }
  | _ => none }
def ConfsGoodWrongFalsely : Prop := confsGoodRow.holds Try.pinned (OpenSpec.ofChange confsGoodWrong)

/-- 'dyeworkskeep.ConfsTwice': WHATEVER THE INPUT: true; the input reads as it did. -/
def confsTwiceSpec : ChangeSpec := { name := "confsTwice", fn := fun _ => fun
  | [d1, d2] => { results := [.lit (.bool true)], args := [d1, d2] }
  | _ => none }
def confsTwiceRow : OpenClaim := { program := "ytdbbmjdeeenlhaa", sum := "60034a3e6571d14a376c49eeb215616eb62cd2f293ae4d4460fee5359bdc1256", func := "dyeworks/dyeworkskeep.ConfsTwice", spec := "confsTwice", unfollowed := true, recurses := true, apart := false }
def ConfsTwiceSaid : Prop := confsTwiceRow.holds Try.pinned (OpenSpec.ofChange confsTwiceSpec)

/-- ITS FALSE NEIGHBOUR: 'it returns false'. Refute it at one input. -/
def confsTwiceWrong : ChangeSpec := { name := "confsTwice", fn := fun _ => fun
  | [d1, d2] => { results := [.lit (.bool false)], args := [d1, d2] }
  | _ => none }
def ConfsTwiceWrongFalsely : Prop := confsTwiceRow.holds Try.pinned (OpenSpec.ofChange confsTwiceWrong)

/-- 'dyeworkslaw.FlowSorts': WHATEVER THE INPUT: true; the input reads as it did. -/
def flowSortsSpec : ChangeSpec := { name := "flowSorts", fn := fun _ => fun
  | [d] => { results := [.lit (.bool true)], args := [d] }
  | _ => none }
def flowSortsRow : OpenClaim := { program := "ytdbbmjdeeenlhaa", sum := "60034a3e6571d14a376c49eeb215616eb62cd2f293ae4d4460fee5359bdc1256", func := "dyeworks/dyeworkslaw.FlowSorts", spec := "flowSorts", unfollowed := true, recurses := true, apart := false }
def FlowSortsSaid : Prop := flowSortsRow.holds Try.pinned (OpenSpec.ofChange flowSortsSpec)

/-- ITS FALSE NEIGHBOUR: 'it returns false'. Refute it at one input. -/
def flowSortsWrong : ChangeSpec := { name := "flowSorts", fn := fun _ => fun
  | [d] => { results := [.lit (.bool false)], args := [d] }
  | _ => none }
def FlowSortsWrongFalsely : Prop := flowSortsRow.holds Try.pinned (OpenSpec.ofChange flowSortsWrong)

/-- 'dyeworkslaw.FlowDiffs': WHATEVER THE INPUT: true; the input reads as it did. -/
def flowDiffsSpec : ChangeSpec := { name := "flowDiffs", fn := fun _ => fun
  | [d1, d2] => { results := [.lit (.bool true)], args := [d1, d2] }
  | _ => none }
def flowDiffsRow : OpenClaim := { program := "ytdbbmjdeeenlhaa", sum := "60034a3e6571d14a376c49eeb215616eb62cd2f293ae4d4460fee5359bdc1256", func := "dyeworks/dyeworkslaw.FlowDiffs", spec := "flowDiffs", unfollowed := true, recurses := true, apart := false }
def FlowDiffsSaid : Prop := flowDiffsRow.holds Try.pinned (OpenSpec.ofChange flowDiffsSpec)

/-- ITS FALSE NEIGHBOUR: 'it returns false'. Refute it at one input. -/
def flowDiffsWrong : ChangeSpec := { name := "flowDiffs", fn := fun _ => fun
  | [d1, d2] => { results := [.lit (.bool false)], args := [d1, d2] }
  | _ => none }
def FlowDiffsWrongFalsely : Prop := flowDiffsRow.holds Try.pinned (OpenSpec.ofChange flowDiffsWrong)

/-- 'dyeworkslaw.FlowPatches': WHATEVER THE INPUT: true; the input reads as it did. -/
def flowPatchesSpec : ChangeSpec := { name := "flowPatches", fn := fun _ => fun
  | [d1, d2, d3] => { results := [.lit (.bool true)], args := [d1, d2, d3] }
  | _ => none }
def flowPatchesRow : OpenClaim := { program := "ytdbbmjdeeenlhaa", sum := "60034a3e6571d14a376c49eeb215616eb62cd2f293ae4d4460fee5359bdc1256", func := "dyeworks/dyeworkslaw.FlowPatches", spec := "flowPatches", unfollowed := true, recurses := true, apart := false }
def FlowPatchesSaid : Prop := flowPatchesRow.holds Try.pinned (OpenSpec.ofChange flowPatchesSpec)

/-- ITS FALSE NEIGHBOUR: 'it returns false'. Refute it at one input. -/
def flowPatchesWrong : ChangeSpec := { name := "flowPatches", fn := fun _ => fun
  | [d1, d2, d3] => { results := [.lit (.bool false)], args := [d1, d2, d3] }
  | _ => none }
def FlowPatchesWrongFalsely : Prop := flowPatchesRow.holds Try.pinned (OpenSpec.ofChange flowPatchesWrong)

/-- 'dyeworkskeep.FramesSpoilt': WHATEVER THE INPUT: true; the input reads as it did. -/
def framesSpoiltSpec : ChangeSpec := { name := "framesSpoilt", fn := fun _ => fun
  | [d1, d2, d3, d4] => { results := [.lit (.bool true)], args := [d1, d2, d3, d4] }
  | _ => none }
def framesSpoiltRow : OpenClaim := { program := "ytdbbmjdeeenlhaa", sum := "60034a3e6571d14a376c49eeb215616eb62cd2f293ae4d4460fee5359bdc1256", func := "dyeworks/dyeworkskeep.FramesSpoilt", spec := "framesSpoilt", unfollowed := true, recurses := true, apart := false }
def FramesSpoiltSaid : Prop := framesSpoiltRow.holds Try.pinned (OpenSpec.ofChange framesSpoiltSpec)

/-- ITS FALSE NEIGHBOUR: 'it returns false'. Refute it at one input. -/
def framesSpoiltWrong : ChangeSpec := { name := "framesSpoilt", fn := fun _ => fun
  | [d1, d2, d3, d4] => { results := [.lit (.bool false)], args := [d1, d2, d3, d4] }
  | _ => none }
def FramesSpoiltWrongFalsely : Prop := framesSpoiltRow.holds Try.pinned (OpenSpec.ofChange framesSpoiltWrong)

/-- 'dyeworkskeep.PatchesLead': WHATEVER THE INPUT: true; the input reads as it did. -/
def patchesLeadSpec : ChangeSpec := { name := "patchesLead", fn := fun _ => fun
  | [d1, d2] => { results := [.lit (.bool true)], args := [d1, d2] }
  | _ => none }
def patchesLeadRow : OpenClaim := { program := "ytdbbmjdeeenlhaa", sum := "60034a3e6571d14a376c49eeb215616eb62cd2f293ae4d4460fee5359bdc1256", func := "dyeworks/dyeworkskeep.PatchesLead", spec := "patchesLead", unfollowed := true, recurses := true, apart := false }
def PatchesLeadSaid : Prop := patchesLeadRow.holds Try.pinned (OpenSpec.ofChange patchesLeadSpec)

/-- ITS FALSE NEIGHBOUR: 'it returns false'. Refute it at one input. -/
def patchesLeadWrong : ChangeSpec := { name := "patchesLead", fn := fun _ => fun
  | [d1, d2] => { results := [.lit (.bool false)], args := [d1, d2] }
  | _ => none }
def PatchesLeadWrongFalsely : Prop := patchesLeadRow.holds Try.pinned (OpenSpec.ofChange patchesLeadWrong)

/-- 'dyeworkskeep.FramesBack': WHATEVER THE INPUT: true; the input reads as it did. -/
def framesBackSpec : ChangeSpec := { name := "framesBack", fn := fun _ => fun
  | [d1, d2, d3, d4, d5] => { results := [.lit (.bool true)], args := [d1, d2, d3, d4, d5] }
  | _ => none }
def framesBackRow : OpenClaim := { program := "ytdbbmjdeeenlhaa", sum := "60034a3e6571d14a376c49eeb215616eb62cd2f293ae4d4460fee5359bdc1256", func := "dyeworks/dyeworkskeep.FramesBack", spec := "framesBack", unfollowed := true, recurses := true, apart := false }
def FramesBackSaid : Prop := framesBackRow.holds Try.pinned (OpenSpec.ofChange framesBackSpec)

/-- ITS FALSE NEIGHBOUR: 'it returns false'. Refute it at one input. -/
def framesBackWrong : ChangeSpec := { name := "framesBack", fn := fun _ => fun
  | [d1, d2, d3, d4, d5] => { results := [.lit (.bool false)], args := [d1, d2, d3, d4, d5] }
  | _ => none }
def FramesBackWrongFalsely : Prop := framesBackRow.holds Try.pinned (OpenSpec.ofChange framesBackWrong)

/-- 'dyeworkskeep.ConfsDrop': WHATEVER THE INPUT: true; the input reads as it did. -/
def confsDropSpec : ChangeSpec := { name := "confsDrop", fn := fun _ => fun
  | [d1, d2, d3] => { results := [.lit (.bool true)], args := [d1, d2, d3] }
  | _ => none }
def confsDropRow : OpenClaim := { program := "ytdbbmjdeeenlhaa", sum := "60034a3e6571d14a376c49eeb215616eb62cd2f293ae4d4460fee5359bdc1256", func := "dyeworks/dyeworkskeep.ConfsDrop", spec := "confsDrop", unfollowed := true, recurses := true, apart := false }
def ConfsDropSaid : Prop := confsDropRow.holds Try.pinned (OpenSpec.ofChange confsDropSpec)

/-- ITS FALSE NEIGHBOUR: 'it returns false'. Refute it at one input. -/
def confsDropWrong : ChangeSpec := { name := "confsDrop", fn := fun _ => fun
  | [d1, d2, d3] => { results := [.lit (.bool false)], args := [d1, d2, d3] }
  | _ => none }
def ConfsDropWrongFalsely : Prop := confsDropRow.holds Try.pinned (OpenSpec.ofChange confsDropWrong)

/-- 'dyeworkslaw.PipeMeans': WHATEVER THE INPUT: true; the input reads as it did. -/
def pipeMeansSpec : ChangeSpec := { name := "pipeMeans", fn := fun _ => fun
  | [d1, d2, d3, d4, d5, d6] => { results := [.lit (.bool true)], args := [d1, d2, d3, d4, d5, d6] }
  | _ => none }
def pipeMeansRow : OpenClaim := { program := "ytdbbmjdeeenlhaa", sum := "60034a3e6571d14a376c49eeb215616eb62cd2f293ae4d4460fee5359bdc1256", func := "dyeworks/dyeworkslaw.PipeMeans", spec := "pipeMeans", unfollowed := true, recurses := true, apart := false }
def PipeMeansSaid : Prop := pipeMeansRow.holds Try.pinned (OpenSpec.ofChange pipeMeansSpec)

/-- ITS FALSE NEIGHBOUR: 'it returns false'. Refute it at one input. -/
def pipeMeansWrong : ChangeSpec := { name := "pipeMeans", fn := fun _ => fun
  | [d1, d2, d3, d4, d5, d6] => { results := [.lit (.bool false)], args := [d1, d2, d3, d4, d5, d6] }
  | _ => none }
def PipeMeansWrongFalsely : Prop := pipeMeansRow.holds Try.pinned (OpenSpec.ofChange pipeMeansWrong)

/-- 'dyeworkskeep.PipesSteady': WHATEVER THE INPUT: true; the input reads as it did. -/
def pipesSteadySpec : ChangeSpec := { name := "pipesSteady", fn := fun _ => fun
  | [d1, d2, d3, d4] => { results := [.lit (.bool true)], args := [d1, d2, d3, d4] }
  | _ => none }
def pipesSteadyRow : OpenClaim := { program := "ytdbbmjdeeenlhaa", sum := "60034a3e6571d14a376c49eeb215616eb62cd2f293ae4d4460fee5359bdc1256", func := "dyeworks/dyeworkskeep.PipesSteady", spec := "pipesSteady", unfollowed := true, recurses := true, apart := false }
def PipesSteadySaid : Prop := pipesSteadyRow.holds Try.pinned (OpenSpec.ofChange pipesSteadySpec)

/-- ITS FALSE NEIGHBOUR: 'it returns false'. Refute it at one input. -/
def pipesSteadyWrong : ChangeSpec := { name := "pipesSteady", fn := fun _ => fun
  | [d1, d2, d3, d4] => { results := [.lit (.bool false)], args := [d1, d2, d3, d4] }
  | _ => none }
def PipesSteadyWrongFalsely : Prop := pipesSteadyRow.holds Try.pinned (OpenSpec.ofChange pipesSteadyWrong)

/- THE SECOND FORM. 'bulk': how many values and letters a reading holds, each counted each time it is reached (what is shared counts as often as it is met; a slice's spare places count too). A statement '..UptoSaid' is the law's where the arguments, and the package variables that the reading takes, are together of bulk at most 1048576: NARROWER than '..Said'. Prove '..Said' where nothing that the law and all that it calls make is longer than what came in: it says more and counts as full. Else prove '..UptoSaid'. A law counts once. -/
mutual
def uptoBulk {H : Type} : DataW H → Nat
  | .lit (.string bytes) => bytes.length + 1
  | .lit _ => 1
  | .nil => 1
  | .ptr d => uptoBulk d + 1
  | .slice elems spare => uptoBulkAll elems + uptoBulkAll spare + 1
  | .agg parts => uptoBulkAll parts + 1
  | .iface _ d => uptoBulk d + 1
  | .map entries => uptoBulkEntries entries + 1
  | .held _ => 1
def uptoBulkAll {H : Type} : List (DataW H) → Nat
  | [] => 0
  | d :: r => uptoBulk d + uptoBulkAll r
def uptoBulkEntries {H : Type} : List (Lit × DataW H) → Nat
  | [] => 0
  | x :: r => uptoBulkEntry x + uptoBulkEntries r
def uptoBulkEntry {H : Type} : Lit × DataW H → Nat
  | (.string bytes, d) => bytes.length + uptoBulk d + 1
  | (_, d) => uptoBulk d + 1
 end
def uptoSmall : (H : Type) → List (DataW H) → Bool := fun _ ds => decide (uptoBulkAll ds ≤ 1048576)
def OpenSpec.upto (s : _root_.Go.ChangeSpec) : _root_.Go.OpenSpec := { _root_.Go.OpenSpec.ofChange s with cond := some uptoSmall }

/-- 'dyeworkskeep.RunsEnd', WHERE WHAT IT READS IS OF BULK AT MOST 1048576: true; the input reads as it did. -/
def runsEndUptoRow : OpenClaim := { program := "ytdbbmjdeeenlhaa", sum := "60034a3e6571d14a376c49eeb215616eb62cd2f293ae4d4460fee5359bdc1256", func := "dyeworks/dyeworkskeep.RunsEnd", spec := "runsEnd", unfollowed := true, recurses := true, apart := false, narrowed := true }
def RunsEndUptoSaid : Prop := runsEndUptoRow.holds Try.pinned (OpenSpec.upto runsEndSpec)

/-- 'dyeworkskeep.RunsFirst', WHERE WHAT IT READS IS OF BULK AT MOST 1048576: true; the input reads as it did. -/
def runsFirstUptoRow : OpenClaim := { program := "ytdbbmjdeeenlhaa", sum := "60034a3e6571d14a376c49eeb215616eb62cd2f293ae4d4460fee5359bdc1256", func := "dyeworks/dyeworkskeep.RunsFirst", spec := "runsFirst", unfollowed := true, recurses := true, apart := false, narrowed := true }
def RunsFirstUptoSaid : Prop := runsFirstUptoRow.holds Try.pinned (OpenSpec.upto runsFirstSpec)

/-- 'dyeworkslaw.ConfApplies', WHERE WHAT IT READS IS OF BULK AT MOST 1048576: true; the input reads as it did. -/
def confAppliesUptoRow : OpenClaim := { program := "ytdbbmjdeeenlhaa", sum := "60034a3e6571d14a376c49eeb215616eb62cd2f293ae4d4460fee5359bdc1256", func := "dyeworks/dyeworkslaw.ConfApplies", spec := "confApplies", unfollowed := true, recurses := true, apart := false, narrowed := true }
def ConfAppliesUptoSaid : Prop := confAppliesUptoRow.holds Try.pinned (OpenSpec.upto confAppliesSpec)

/-- 'dyeworkskeep.ConfsGood', WHERE WHAT IT READS IS OF BULK AT MOST 1048576: true; the input reads as it did. -/
def confsGoodUptoRow : OpenClaim := { program := "ytdbbmjdeeenlhaa", sum := "60034a3e6571d14a376c49eeb215616eb62cd2f293ae4d4460fee5359bdc1256", func := "dyeworks/dyeworkskeep.ConfsGood", spec := "confsGood", unfollowed := true, recurses := true, apart := false, narrowed := true }
def ConfsGoodUptoSaid : Prop := confsGoodUptoRow.holds Try.pinned (OpenSpec.upto confsGoodSpec)

/-- 'dyeworkskeep.ConfsTwice', WHERE WHAT IT READS IS OF BULK AT MOST 1048576: true; the input reads as it did. -/
def confsTwiceUptoRow : OpenClaim := { program := "ytdbbmjdeeenlhaa", sum := "60034a3e6571d14a376c49eeb215616eb62cd2f293ae4d4460fee5359bdc1256", func := "dyeworks/dyeworkskeep.ConfsTwice", spec := "confsTwice", unfollowed := true, recurses := true, apart := false, narrowed := true }
def ConfsTwiceUptoSaid : Prop := confsTwiceUptoRow.holds Try.pinned (OpenSpec.upto confsTwiceSpec)

/-- 'dyeworkslaw.FlowSorts', WHERE WHAT IT READS IS OF BULK AT MOST 1048576: true; the input reads as it did. -/
def flowSortsUptoRow : OpenClaim := { program := "ytdbbmjdeeenlhaa", sum := "60034a3e6571d14a376c49eeb215616eb62cd2f293ae4d4460fee5359bdc1256", func := "dyeworks/dyeworkslaw.FlowSorts", spec := "flowSorts", unfollowed := true, recurses := true, apart := false, narrowed := true }
def FlowSortsUptoSaid : Prop := flowSortsUptoRow.holds Try.pinned (OpenSpec.upto flowSortsSpec)

/-- 'dyeworkslaw.FlowDiffs', WHERE WHAT IT READS IS OF BULK AT MOST 1048576: true; the input reads as it did. -/
def flowDiffsUptoRow : OpenClaim := { program := "ytdbbmjdeeenlhaa", sum := "60034a3e6571d14a376c49eeb215616eb62cd2f293ae4d4460fee5359bdc1256", func := "dyeworks/dyeworkslaw.FlowDiffs", spec := "flowDiffs", unfollowed := true, recurses := true, apart := false, narrowed := true }
def FlowDiffsUptoSaid : Prop := flowDiffsUptoRow.holds Try.pinned (OpenSpec.upto flowDiffsSpec)

/-- 'dyeworkslaw.FlowPatches', WHERE WHAT IT READS IS OF BULK AT MOST 1048576: true; the input reads as it did. -/
def flowPatchesUptoRow : OpenClaim := { program := "ytdbbmjdeeenlhaa", sum := "60034a3e6571d14a376c49eeb215616eb62cd2f293ae4d4460fee5359bdc1256", func := "dyeworks/dyeworkslaw.FlowPatches", spec := "flowPatches", unfollowed := true, recurses := true, apart := false, narrowed := true }
def FlowPatchesUptoSaid : Prop := flowPatchesUptoRow.holds Try.pinned (OpenSpec.upto flowPatchesSpec)

/-- 'dyeworkskeep.FramesSpoilt', WHERE WHAT IT READS IS OF BULK AT MOST 1048576: true; the input reads as it did. -/
def framesSpoiltUptoRow : OpenClaim := { program := "ytdbbmjdeeenlhaa", sum := "60034a3e6571d14a376c49eeb215616eb62cd2f293ae4d4460fee5359bdc1256", func := "dyeworks/dyeworkskeep.FramesSpoilt", spec := "framesSpoilt", unfollowed := true, recurses := true, apart := false, narrowed := true }
def FramesSpoiltUptoSaid : Prop := framesSpoiltUptoRow.holds Try.pinned (OpenSpec.upto framesSpoiltSpec)

/-- 'dyeworkskeep.PatchesLead', WHERE WHAT IT READS IS OF BULK AT MOST 1048576: true; the input reads as it did. -/
def patchesLeadUptoRow : OpenClaim := { program := "ytdbbmjdeeenlhaa", sum := "60034a3e6571d14a376c49eeb215616eb62cd2f293ae4d4460fee5359bdc1256", func := "dyeworks/dyeworkskeep.PatchesLead", spec := "patchesLead", unfollowed := true, recurses := true, apart := false, narrowed := true }
def PatchesLeadUptoSaid : Prop := patchesLeadUptoRow.holds Try.pinned (OpenSpec.upto patchesLeadSpec)

/-- 'dyeworkskeep.FramesBack', WHERE WHAT IT READS IS OF BULK AT MOST 1048576: true; the input reads as it did. -/
def framesBackUptoRow : OpenClaim := { program := "ytdbbmjdeeenlhaa", sum := "60034a3e6571d14a376c49eeb215616eb62cd2f293ae4d4460fee5359bdc1256", func := "dyeworks/dyeworkskeep.FramesBack", spec := "framesBack", unfollowed := true, recurses := true, apart := false, narrowed := true }
def FramesBackUptoSaid : Prop := framesBackUptoRow.holds Try.pinned (OpenSpec.upto framesBackSpec)

/-- 'dyeworkskeep.ConfsDrop', WHERE WHAT IT READS IS OF BULK AT MOST 1048576: true; the input reads as it did. -/
def confsDropUptoRow : OpenClaim := { program := "ytdbbmjdeeenlhaa", sum := "60034a3e6571d14a376c49eeb215616eb62cd2f293ae4d4460fee5359bdc1256", func := "dyeworks/dyeworkskeep.ConfsDrop", spec := "confsDrop", unfollowed := true, recurses := true, apart := false, narrowed := true }
def ConfsDropUptoSaid : Prop := confsDropUptoRow.holds Try.pinned (OpenSpec.upto confsDropSpec)

/-- 'dyeworkslaw.PipeMeans', WHERE WHAT IT READS IS OF BULK AT MOST 1048576: true; the input reads as it did. -/
def pipeMeansUptoRow : OpenClaim := { program := "ytdbbmjdeeenlhaa", sum := "60034a3e6571d14a376c49eeb215616eb62cd2f293ae4d4460fee5359bdc1256", func := "dyeworks/dyeworkslaw.PipeMeans", spec := "pipeMeans", unfollowed := true, recurses := true, apart := false, narrowed := true }
def PipeMeansUptoSaid : Prop := pipeMeansUptoRow.holds Try.pinned (OpenSpec.upto pipeMeansSpec)

/-- 'dyeworkskeep.PipesSteady', WHERE WHAT IT READS IS OF BULK AT MOST 1048576: true; the input reads as it did. -/
def pipesSteadyUptoRow : OpenClaim := { program := "ytdbbmjdeeenlhaa", sum := "60034a3e6571d14a376c49eeb215616eb62cd2f293ae4d4460fee5359bdc1256", func := "dyeworks/dyeworkskeep.PipesSteady", spec := "pipesSteady", unfollowed := true, recurses := true, apart := false, narrowed := true }
def PipesSteadyUptoSaid : Prop := pipesSteadyUptoRow.holds Try.pinned (OpenSpec.upto pipesSteadySpec)

end Rows
end Go.Proofs.Ytdbbmjdeeenlhaa
