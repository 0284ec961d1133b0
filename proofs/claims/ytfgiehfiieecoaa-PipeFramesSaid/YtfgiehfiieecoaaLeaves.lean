/- The cells of the program's types. -/
import Derived.Test.YtfgiehfiieecoaaRows
import Derived.Test.YtfgiehfiieecoaaRead
namespace Go.Proofs.Ytfgiehfiieecoaa
theorem frame_leaves : leaves Try.prog 2 40 = some frameLeaves := by kernel_rfl
theorem packet_leaves : leaves Try.prog 3 28 = some packetLeaves := by kernel_rfl
end Go.Proofs.Ytfgiehfiieecoaa
