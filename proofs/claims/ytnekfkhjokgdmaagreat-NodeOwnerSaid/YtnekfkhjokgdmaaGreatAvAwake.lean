/-
  Av: awake() gives true, whatever the world.
-/
import Derived.Test.YtnekfkhjokgdmaaGreatAvS4
set_option linter.unusedVariables false
set_option maxRecDepth 100000
namespace Tw
open Go Go.Av Go.Proofs
theorem dropS_skip : ∀ k, dropS k .skip = .skip
  | 0 => rfl
  | _ + 1 => rfl
theorem dropS_add (a : Nat) : ∀ (b : Nat) (c : ACode), dropS a (dropS b c) = dropS (b + a) c
  | 0, c => by rw [Nat.zero_add]; rfl
  | b + 1, c => by
    rw [Nat.add_right_comm]
    cases c <;> first | exact dropS_add a b _ | exact dropS_skip a
theorem lastE : endsAs sE 5000 (dropS 16 acE) [.tmp 0] (.bool true) S4_ts S4 = true := by kernel_rfl
theorem someE : (cFun Tryz.prog Tryz.f10).isSome = true := by kernel_rfl
theorem awake_gives : Gives Tryz.prog 10 (.bool true) := by
  have hs : LvOK Tryz.prog sE := lv_ok Big.FT_ok 5000 60
  have hmix := Big.FT_ok.mix
  obtain ⟨af, haf⟩ := Option.isSome_iff_exists.1 someE
  have hac : acE = af.body := by unfold acE; rw [haf]
  refine gives_ok Tryz.func10 haf fun w0 => ?_
  rw [← hac]
  refine Way.cut (n := 5000) (k := 8) hs hmix cutS1 ?_
  refine Way.cut (n := 5000) (k := 3) hs hmix cutS2 ?_
  rw [dropS_add]
  refine Way.cut (n := 5000) (k := 2) hs hmix cutS3 ?_
  rw [dropS_add]
  refine Way.cut (n := 5000) (k := 3) hs hmix cutS4 ?_
  rw [dropS_add]
  exact Way.last (n := 5000) hs hmix (by kernel_rfl) lastE
#print axioms awake_gives
end Tw
