/-
  Closed facts of the program (1).
-/
import Derived.Test.YtnekfkhjokgdmaaGreatRows
import Derived.WalkKit
import Derived.ProofKit
import Derived.OpenShut
set_option maxRecDepth 100000
namespace Go.Proofs.YtnekfkhjokgdmaaGreat
theorem prog_jf1 : (laidOutB Tryz.prog) = true := by kernel_rfl
theorem prog_jf2 : (mapsRowed Tryz.prog) = true := by kernel_rfl
end Go.Proofs.YtnekfkhjokgdmaaGreat
