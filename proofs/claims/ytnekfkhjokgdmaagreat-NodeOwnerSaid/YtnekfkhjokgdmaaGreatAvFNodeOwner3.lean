/-
  Closed facts of a row (3).
-/
import Derived.Test.YtnekfkhjokgdmaaGreatRows
import Derived.Test.YtnekfkhjokgdmaaGreatAvFp1
import Derived.Test.YtnekfkhjokgdmaaGreatAvFp2
import Derived.Test.YtnekfkhjokgdmaaGreatAvFNodeOwner1
import Derived.Test.YtnekfkhjokgdmaaGreatAvFNodeOwner2
import Derived.WalkKit
import Derived.ProofKit
import Derived.OpenShut
set_option maxRecDepth 100000
namespace Go.Proofs.YtnekfkhjokgdmaaGreat
theorem nodeOwner_jf0 : (Rows.nodeOwnerRow.wf (OpenSpec.ofChange Rows.nodeOwnerSpec)) = true := by kernel_rfl
theorem nodeOwner_jf3 : (Tryz.f5.params.all (Tryz.prog.readableRec ·)) = true := by kernel_rfl
theorem nodeOwner_jf4 : (namedTie Tryz.prog Rows.nodeOwnerRow.named Rows.nodeOwnerSpec.vars) = true := by kernel_rfl
theorem nodeOwner_jf5 : ((Rows.nodeOwnerRow.stops == [])) = true := by kernel_rfl
theorem nodeOwner_jf7 : ((Rows.nodeOwnerRow.knobs == [])) = true := by kernel_rfl
theorem nodeOwner_jf13 : ((Rows.nodeOwnerRow.maps == (Tryz.f5.params.toList ++ Rows.nodeOwnerSpec.plain.varTypes Tryz.prog).any (Tryz.prog.mapsRec ·))) = true := by kernel_rfl
theorem nodeOwner_jf14 : ((Rows.nodeOwnerRow.ifaces == (Tryz.f5.params.toList ++ Rows.nodeOwnerSpec.plain.varTypes Tryz.prog).any (Tryz.prog.ifacesRec ·))) = true := by kernel_rfl
theorem nodeOwner_jf15 : ((Rows.nodeOwnerRow.mapsOut == Tryz.prog.mapsAmong Tryz.f5.resultTypes.toList)) = true := by kernel_rfl
theorem nodeOwner_jf16 : ((Rows.nodeOwnerRow.loops == (Tryz.f5.params.toList ++ Rows.nodeOwnerSpec.plain.varTypes Tryz.prog).any (Tryz.prog.loopsFrom ·))) = true := by kernel_rfl
theorem nodeOwner_jf17 : ((Rows.nodeOwnerRow.wideKeys == (Tryz.f5.params.toList ++ Rows.nodeOwnerSpec.plain.varTypes Tryz.prog ++ Tryz.f5.resultTypes.toList).any (Tryz.prog.wideKeysFrom ·))) = true := by kernel_rfl
theorem nodeOwner_jf18 : (Rows.nodeOwnerSpec.vars.all (Tryz.prog.varReadable ·)) = true := by kernel_rfl
theorem nodeOwner_jf19 : (Tryz.f5.resultTypes.all (fun t => Tryz.prog.readableRec t && decide (t < Tryz.prog.types.size))) = true := by kernel_rfl
theorem nodeOwner_jf20 : ((Rows.nodeOwnerRow.ifacesOut == Tryz.f5.resultTypes.toList.any (Tryz.prog.ifacesRec ·))) = true := by kernel_rfl
theorem nodeOwner_jf21 : ((Rows.nodeOwnerRow.loopsOut == Tryz.f5.resultTypes.toList.any (Tryz.prog.loopsFrom ·))) = true := by kernel_rfl
theorem nodeOwner_jf22 : ((Rows.nodeOwnerRow.plainKeys == Tryz.prog.plainKeys)) = true := by kernel_rfl
theorem nodeOwner_jf23 : (Rows.nodeOwnerRow.shortTexts.isNone) = true := by kernel_rfl
theorem nodeOwner_jf28 : ((Rows.nodeOwnerRow.kinds == (if Rows.nodeOwnerRow.domain.isEmpty then [] else Tryz.f5.params.toList.map fun t => match Tryz.prog.underlying t with | some (.int k) => some k | _ => none))) = true := by kernel_rfl
theorem nodeOwner_jf29 : ((Rows.nodeOwnerRow.pinned == Rows.nodeOwnerRow.pinnedBy)) = true := by kernel_rfl
theorem nodeOwner_jf30 : ((Rows.nodeOwnerRow.veiled == (Tryz.f5.params.toList ++ Rows.nodeOwnerSpec.plain.varTypes Tryz.prog ++ Tryz.f5.resultTypes.toList).any (Tryz.prog.veiledRec ·))) = true := by kernel_rfl
theorem nodeOwner_jf31 : (Rows.nodeOwnerRow.veiledFits Tryz.prog Tryz.f5.params.toList (Tryz.f5.params.toList ++ Rows.nodeOwnerSpec.plain.varTypes Tryz.prog ++ Tryz.f5.resultTypes.toList)) = true := by kernel_rfl
theorem nodeOwner_and {a b : Bool} (h : a = true) (k : b = true) : (a && b) = true := by rw [h, k]; rfl
theorem nodeOwner_facts : joinedFacts Tryz.prog 5 Tryz.f5 Rows.nodeOwnerSpec Rows.nodeOwnerRow = true :=
  nodeOwner_and (nodeOwner_and (nodeOwner_and (nodeOwner_and (nodeOwner_and (nodeOwner_and (nodeOwner_and (nodeOwner_and (nodeOwner_and (nodeOwner_and (nodeOwner_and (nodeOwner_and (nodeOwner_and (nodeOwner_and (nodeOwner_and (nodeOwner_and (nodeOwner_and (nodeOwner_and (nodeOwner_and (nodeOwner_and (nodeOwner_and (nodeOwner_and (nodeOwner_and (nodeOwner_and (nodeOwner_and (nodeOwner_and (nodeOwner_and (nodeOwner_and (nodeOwner_and (nodeOwner_and (nodeOwner_and (nodeOwner_jf0) prog_jf1) prog_jf2) nodeOwner_jf3) nodeOwner_jf4) nodeOwner_jf5) prog_jf6) nodeOwner_jf7) prog_jf8) nodeOwner_jf9) nodeOwner_jf10) nodeOwner_jf11) nodeOwner_jf12) nodeOwner_jf13) nodeOwner_jf14) nodeOwner_jf15) nodeOwner_jf16) nodeOwner_jf17) nodeOwner_jf18) nodeOwner_jf19) nodeOwner_jf20) nodeOwner_jf21) nodeOwner_jf22) nodeOwner_jf23) prog_jf24) prog_jf25) prog_jf26) prog_jf27) nodeOwner_jf28) nodeOwner_jf29) nodeOwner_jf30) nodeOwner_jf31
theorem nodeOwner_named : Tryz.prog.funcNamed Rows.nodeOwnerRow.func = some 5 := by kernel_rfl
end Go.Proofs.YtnekfkhjokgdmaaGreat
