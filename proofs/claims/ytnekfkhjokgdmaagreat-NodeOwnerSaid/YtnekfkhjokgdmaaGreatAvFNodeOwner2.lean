/-
  Closed facts of a row (2).
-/
import Derived.Test.YtnekfkhjokgdmaaGreatRows
import Derived.WalkKit
import Derived.ProofKit
import Derived.OpenShut
set_option maxRecDepth 100000
namespace Go.Proofs.YtnekfkhjokgdmaaGreat
theorem nodeOwner_jf11 : ((Rows.nodeOwnerRow.recurses == Tryz.prog.recurses 5)) = true := by kernel_rfl
theorem nodeOwner_jf12 : ((Rows.nodeOwnerRow.named == Tryz.prog.varsNamed 5)) = true := by kernel_rfl
end Go.Proofs.YtnekfkhjokgdmaaGreat
