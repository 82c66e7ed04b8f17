/-
  Closed facts of the program (2).
-/
import Derived.Test.YtnekfkhjokgdmaaGreatRows
import Derived.WalkKit
import Derived.ProofKit
import Derived.OpenShut
set_option maxRecDepth 100000
namespace Go.Proofs.YtnekfkhjokgdmaaGreat
theorem prog_jf6 : ((Tryz.prog.stops == [])) = true := by kernel_rfl
theorem prog_jf8 : ((Tryz.prog.stopKnobs == [])) = true := by kernel_rfl
theorem prog_jf24 : (Tryz.prog.stopsHeard) = true := by kernel_rfl
theorem prog_jf25 : (Tryz.prog.mayEnter) = true := by kernel_rfl
theorem prog_jf26 : ((Rows.nodeOwnerRow.lifted == Tryz.prog.liftsFinal)) = true := by kernel_rfl
theorem prog_jf27 : ((Tryz.prog.make == some Rows.nodeOwnerRow.make)) = true := by kernel_rfl
end Go.Proofs.YtnekfkhjokgdmaaGreat
