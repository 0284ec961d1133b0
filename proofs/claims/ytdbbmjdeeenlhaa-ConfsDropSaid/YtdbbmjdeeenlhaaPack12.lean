/- The cells of the program's types; '==' on them. -/
import Derived.Test.YtdbbmjdeeenlhaaRows
import Derived.Test.YtdbbmjdeeenlhaaPack09
import Derived.Test.YtdbbmjdeeenlhaaPack10
set_option linter.unusedSimpArgs false
set_option linter.unusedVariables false
namespace Go.Proofs.Ytdbbmjdeeenlhaa
set_option maxRecDepth 100000
theorem frame_leaves : leaves Try.prog 2 58 = some frameLeaves := by kernel_rfl
theorem packet_leaves : leaves Try.prog 3 24 = some packetLeaves := by kernel_rfl
theorem packet_shp (p : Pk) : Shp packetLeaves p.cells := ⟨trivial, trivial, trivial, trivial, trivial, trivial, trivial, trivial, trivial, trivial, trivial, trivial⟩
theorem frame_shp (p : Fr) : Shp frameLeaves p.cells := ⟨trivial, trivial, trivial, trivial, trivial, trivial, trivial, trivial, trivial⟩
theorem packet_eqOk : eqOk Try.prog 3 24 = true := by kernel_rfl
theorem packet_lenOk : lenOk Try.prog 3 24 = true := by kernel_rfl
theorem packet_agg : aggB Try.prog 24 = true := by kernel_rfl
theorem eql_packet (p q : Pk) (W : World) : (binOp .eql 24 (.agg p.cells.toArray) (.agg q.cells.toArray)).run Try.prog W = .ok (.bool (beqL p.cells q.cells)) W :=
  run_eql_plain packet_leaves packet_eqOk packet_lenOk (by omega) packet_agg _ _ (packet_shp p) (packet_shp q) W
theorem eql_packet_same (p : Pk) (W : World) : (binOp .eql 24 (.agg p.cells.toArray) (.agg p.cells.toArray)).run Try.prog W = .ok (.bool true) W := by
  rw [eql_packet, beqL_refl (packet_shp p)]
end Go.Proofs.Ytdbbmjdeeenlhaa
