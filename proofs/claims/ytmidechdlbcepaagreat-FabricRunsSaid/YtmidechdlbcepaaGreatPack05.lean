import Derived.Test.YtmidechdlbcepaaGreatRows
import Derived.Test.YtmidechdlbcepaaGreatPack04
import Derived.WalkKit
import Derived.WalkSpells
import Derived.WalkLawsBesides
import Derived.Lib.Hide
set_option linter.unusedSimpArgs false
set_option linter.unusedVariables false
namespace Go.Proofs.YtmidechdlbcepaaGreat
open Go.RowKit

end Go.Proofs.YtmidechdlbcepaaGreat