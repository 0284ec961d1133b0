import Derived.Test.YtmidechdlbcepaaRows
import Derived.Test.YtmidechdlbcepaaPack03
import Derived.WalkKit
import Derived.WalkSpells
import Derived.WalkLawsBesides
import Derived.Lib.Hide
set_option linter.unusedSimpArgs false
set_option linter.unusedVariables false
namespace Go.Proofs.Ytmidechdlbcepaa
open Go.RowKit

end Go.Proofs.Ytmidechdlbcepaa

namespace Go.Proofs.Ytmidechdlbcepaa
open Go.RowKit

end Go.Proofs.Ytmidechdlbcepaa

namespace Go.Proofs.Ytmidechdlbcepaa
open Go.RowKit

end Go.Proofs.Ytmidechdlbcepaa
