import Derived.Test.YtmidechdlbcepaaRows
import Derived.Test.YtmidechdlbcepaaPack09
import Derived.Test.YtmidechdlbcepaaPack10
set_option linter.unusedSimpArgs false
set_option linter.unusedVariables false
namespace Go.Proofs.Ytmidechdlbcepaa
set_option maxRecDepth 100000
end Go.Proofs.Ytmidechdlbcepaa
