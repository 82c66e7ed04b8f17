/-
  Closed facts of a row (1).
-/
import Derived.Test.YtnekfkhjokgdmaaGreatRows
import Derived.WalkKit
import Derived.ProofKit
import Derived.OpenShut
set_option maxRecDepth 100000
namespace Go.Proofs.YtnekfkhjokgdmaaGreat
theorem nodeOwner_jf9 : ((Rows.nodeOwnerRow.inPlace == Tryz.prog.inPlace 5)) = true := by kernel_rfl
theorem nodeOwner_jf10 : ((Rows.nodeOwnerRow.unfollowed == Tryz.prog.unfollowed 5)) = true := by kernel_rfl
end Go.Proofs.YtnekfkhjokgdmaaGreat
