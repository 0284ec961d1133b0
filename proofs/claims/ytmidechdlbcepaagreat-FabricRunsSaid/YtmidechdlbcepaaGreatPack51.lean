import Derived.Test.YtmidechdlbcepaaGreatPack30
import Derived.Test.YtmidechdlbcepaaGreatPack50
set_option linter.unusedSimpArgs false
set_option linter.unusedVariables false
namespace Go.Proofs.YtmidechdlbcepaaGreat
open Go.RowKit
set_option maxRecDepth 100000
theorem in_T (n lo hi : Int) : Fun Tryz.prog 52 [.fv (.int .i64 n), .fv (.int .i64 lo), .fv (.int .i64 hi)] (.fv (.bool (inR n lo hi))) := by
  refine Fun.body tbl_ok Tryz.func52 rfl (by kernel_rfl) rfl rfl rfl ?_
  repeat' (first | refine X.loc ?_ | refine nx ?_ | refine cb ?_ ?_ | (refine cc ?_ ?_ <;> intro hcond) | refine rb ?_ | refine nd ?_ | refine dk ?_ | fail)
  exact .f1 (.inl rfl) rfl (by rw [and_of]; rfl)
end Go.Proofs.YtmidechdlbcepaaGreat