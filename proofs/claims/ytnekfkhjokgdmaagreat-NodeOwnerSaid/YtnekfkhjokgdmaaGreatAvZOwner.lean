/-
  NodeOwner answers true for every atom, and leaves its argument as it was. No condition.
-/
import Derived.Test.YtnekfkhjokgdmaaGreatRows
import Derived.Test.YtnekfkhjokgdmaaGreatAvOwner
import Derived.Test.YtnekfkhjokgdmaaGreatAvClaim
import Derived.Test.YtnekfkhjokgdmaaGreatAvFNodeOwner3
import Derived.WalkKit
import Derived.ProofKit
import Derived.OpenShut
namespace Go.Proofs.YtnekfkhjokgdmaaGreat
open Go.ChangeShapes Go.WideShapes Go.ChangeAt Go.RowKit
set_option linter.unusedVariables false
theorem owner_own : ownKnob Tryz.prog.godebug = none := by kernel_rfl

theorem owner_walk (a0 : Int) (w0 : (Lit.int .u16 a0).wf = true) (w : World) :
    Calls Tryz.prog 5 #[.int .u16 a0] w fun e w' => e = .returned (.bool true) ∧ Go.Av.Grown w w' := by
  have h : IntKind.u16.min ≤ a0 ∧ a0 ≤ IntKind.u16.max := by simpa [Lit.wf] using w0
  have e1 : IntKind.u16.min = 0 := rfl
  have e2 : IntKind.u16.max = 65535 := rfl
  rw [e1, e2] at h
  exact Tw.owner_walk a0 h.1 (by omega) w

set_option maxRecDepth 100000 in
theorem owner_lifted (os : Os) (started : os.Started) (H : Type) (enc : TypeId × Value → H) :
    ReturnsInHanded {} Tryz.checked os 5 .any (Rows.nodeOwnerSpec.pre6 enc Tryz.prog Tryz.f5 Rows.nodeOwnerRow.domain false) (Rows.nodeOwnerSpec.post enc Tryz.prog Tryz.f5 false true false false) := by
  refine returnsInHanded_of_change (C := Tryz.checked) owner_own started (by kernel_rfl) Tryz.func5
    (ChangeSpec.witness6 (enc := enc) (C := Tryz.checked) false ⟨#[], #[.int .u16 0], []⟩ 8 (by kernel_rfl) (by kernel_rfl) (by kernel_rfl) (by kernel_rfl)) ?_
  intro W base args ds gs before hval0 hW hcnd _
  have hval : ∀ (j : Nat) t v, Tryz.f5.params[j]? = some t → args[j]? = some v → Value.okWide Tryz.prog W .any base t v := hval0
  have hW' := hW
  obtain ⟨p, q, hA0, hV, rfl, hfz, hnd⟩ := hW
  have hA : DataW.TrodAll enc Tryz.prog W 0 (fun _ => true) true Tryz.f5.params.toList args.toList ds p := hA0
  rw [Tryz.params5] at hA hval
  obtain ⟨v0, vs0, d0, ds0, p0, q0, hargs, rfl, rfl, h0, r0⟩ := trodAll_cons hA
  obtain ⟨rfl, rfl, rfl⟩ := trodAll_nil r0
  obtain rfl : args = #[v0] := by cases args; simp_all
  obtain ⟨rfl, rfl⟩ := trodVars_none hV
  obtain ⟨a0, rfl, rfl, rfl, w0⟩ := open_int Tryz.underlying58 (hval 0 58 v0 rfl rfl) h0
  clear hA0 hval0
  simp only [List.append_nil] at hW'
  refine (owner_walk a0 w0 W).mono fun e W' ⟨he, hg⟩ => ?_
  subst he
  exact ⟨_, rfl, Go.Av.post_of_grown (pa := []) (pv := []) hW' (fun _ _ _ => (trodAll_cons_mk (shut_bool Tryz.underlying4 _) trodAll_mk0)) (fun sp _ => (trodAll_cons_mk (shut_int Tryz.underlying58 w0) trodAll_mk0)) (fun _ _ => rfl) rfl
    hg (ok_one (by kernel_rfl) rfl (okWide_bool_mk Tryz.underlying4 _))⟩

theorem owner_over : Rows.nodeOwnerRow.holds Tryz.pinned (OpenSpec.ofChange Rows.nodeOwnerSpec) :=
  OpenClaim.holds_of_wide 5 Tryz.f5 rfl rfl rfl rfl rfl rfl rfl ⟨rfl, rfl, rfl, rfl, rfl⟩ rfl rfl rfl rfl rfl nodeOwner_named Tryz.func5 nodeOwner_facts
    (of_decide_eq_true (by kernel_rfl)) (by unfold Func.isWrapper; first | (rw [if_pos (by decide +kernel)]; kernel_rfl) | (rw [if_neg (by decide +kernel)]; exact ⟨rfl, rfl⟩))
    (fun os started H enc _ => owner_lifted os started H enc)

/-- NodeOwner. -/
theorem nodeOwner_holds : Rows.NodeOwnerSaid :=
  owner_over
#print axioms nodeOwner_holds
end Go.Proofs.YtnekfkhjokgdmaaGreat
