import Derived.Test.YtmidechdlbcepaaPack23
import Derived.Test.YtmidechdlbcepaaPack06
set_option linter.unusedSimpArgs false
set_option linter.unusedVariables false
namespace Go.Proofs.Ytmidechdlbcepaa
open Go.RowKit
set_option maxRecDepth 100000

end Go.Proofs.Ytmidechdlbcepaa
