import Derived.Test.YtmidechdlbcepaaRows
import Derived.Test.YtmidechdlbcepaaPack09
import Derived.Test.YtmidechdlbcepaaPack10
set_option linter.unusedSimpArgs false
set_option linter.unusedVariables false
namespace Go.Proofs.Ytmidechdlbcepaa
set_option maxRecDepth 100000
theorem frame_leaves : leaves Try.prog 2 28 = some frameLeaves := by kernel_rfl
end Go.Proofs.Ytmidechdlbcepaa
