import Derived.Test.YtmidechdlbcepaaGreatRows
import Derived.Test.YtmidechdlbcepaaGreatPack09
import Derived.Test.YtmidechdlbcepaaGreatPack10
set_option linter.unusedSimpArgs false
set_option linter.unusedVariables false
namespace Go.Proofs.YtmidechdlbcepaaGreat
set_option maxRecDepth 100000
theorem frame_leaves : leaves Tryz.prog 2 28 = some frameLeaves := by kernel_rfl
end Go.Proofs.YtmidechdlbcepaaGreat
