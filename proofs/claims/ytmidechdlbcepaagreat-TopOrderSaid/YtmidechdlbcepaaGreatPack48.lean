import Derived.Test.YtmidechdlbcepaaGreatPack31
import Derived.Test.YtmidechdlbcepaaGreatPack28
set_option linter.unusedSimpArgs false
set_option linter.unusedVariables false
namespace Go.Proofs.YtmidechdlbcepaaGreat
open Go.RowKit
set_option maxRecDepth 100000
section
variable {t g a b : Int} {l : List Ac}
end
end Go.Proofs.YtmidechdlbcepaaGreat