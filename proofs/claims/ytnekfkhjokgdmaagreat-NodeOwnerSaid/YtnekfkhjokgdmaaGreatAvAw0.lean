/-
  Av: awake's code.
-/
import Derived.Test.YtnekfkhjokgdmaaGreatAvTabN
set_option maxRecDepth 100000
namespace Tw
open Go Go.Av Go.Proofs
noncomputable def bs (l : List Nat) : List UInt8 := l.map UInt8.ofNat
noncomputable def sE : Lv := lvA Big.FT 5000 60
noncomputable def acE : ACode := match cFun Tryz.prog Tryz.f10 with | some f => f.body | none => .skip
end Tw
