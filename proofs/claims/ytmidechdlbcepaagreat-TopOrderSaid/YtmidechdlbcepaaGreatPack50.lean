import Derived.Test.YtmidechdlbcepaaGreatPack37
set_option linter.unusedSimpArgs false
set_option linter.unusedVariables false
namespace Go.Proofs.YtmidechdlbcepaaGreat
open Go.RowKit
section
variable {c : Cf} {k : Nat} {p : Po}
end
end Go.Proofs.YtmidechdlbcepaaGreat