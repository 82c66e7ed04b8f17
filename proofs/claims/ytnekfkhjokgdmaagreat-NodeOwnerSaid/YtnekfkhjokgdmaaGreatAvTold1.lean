/-
  Av: what is told of store.which and store.Next: the parts that they call.
-/
import Derived.Test.YtnekfkhjokgdmaaGreatAvSort
import Derived.Test.YtnekfkhjokgdmaaGreatProg
import Derived.Shelf.Sort.Plain
import Derived.Shelf.Lay
import Derived.KernelRfl
set_option linter.unusedVariables false
set_option maxRecDepth 100000
namespace Go.Proofs
open Go.Shelf Go.Sort Go.RowKit
shelf_lay Lays.n189 Nm 189 at Tryz as Tryz.lays189
end Go.Proofs
namespace Tw
open Go Go.Av Go.Proofs Go.Sort

namespace T0
noncomputable def a270 : Option FSpec := rowOf Tryz.prog Tryz.f270
theorem r270 : RowOK Tryz.prog 270 a270 := RowOK.ofFn Tryz.func270 (by kernel_rfl) (by kernel_rfl)
noncomputable def a286 : Option FSpec := rowOf Tryz.prog Tryz.f286
theorem r286 : RowOK Tryz.prog 286 a286 := RowOK.ofFn Tryz.func286 (by kernel_rfl) (by kernel_rfl)
noncomputable def a312 : Option FSpec := rowOf Tryz.prog Tryz.f312
theorem r312 : RowOK Tryz.prog 312 a312 := RowOK.ofFn Tryz.func312 (by kernel_rfl) (by kernel_rfl)
noncomputable def a321 : Option FSpec := rowOf Tryz.prog Tryz.f321
theorem r321 : RowOK Tryz.prog 321 a321 := RowOK.ofFn Tryz.func321 (by kernel_rfl) (by kernel_rfl)
noncomputable def a344 : Option FSpec := rowOf Tryz.prog Tryz.f344
theorem r344 : RowOK Tryz.prog 344 a344 := RowOK.ofFn Tryz.func344 (by kernel_rfl) (by kernel_rfl)
noncomputable def t270 : FuncId → Option FSpec := fun f => bif Nat.beq f 270 then a270 else none
theorem g270 : TabG Tryz.prog t270 := TabG.leaf r270
noncomputable def t286 : FuncId → Option FSpec := fun f => bif Nat.beq f 286 then a286 else none
theorem g286 : TabG Tryz.prog t286 := TabG.leaf r286
noncomputable def n1 : FuncId → Option FSpec := fun f => bif Nat.blt f 286 then t270 f else t286 f
theorem h1 : TabG Tryz.prog n1 := TabG.node g270 g286
noncomputable def t312 : FuncId → Option FSpec := fun f => bif Nat.beq f 312 then a312 else none
theorem g312 : TabG Tryz.prog t312 := TabG.leaf r312
noncomputable def t321 : FuncId → Option FSpec := fun f => bif Nat.beq f 321 then a321 else none
theorem g321 : TabG Tryz.prog t321 := TabG.leaf r321
noncomputable def t344 : FuncId → Option FSpec := fun f => bif Nat.beq f 344 then a344 else none
theorem g344 : TabG Tryz.prog t344 := TabG.leaf r344
noncomputable def n2 : FuncId → Option FSpec := fun f => bif Nat.blt f 344 then t321 f else t344 f
theorem h2 : TabG Tryz.prog n2 := TabG.node g321 g344
noncomputable def n3 : FuncId → Option FSpec := fun f => bif Nat.blt f 321 then t312 f else n2 f
theorem h3 : TabG Tryz.prog n3 := TabG.node g312 h2
noncomputable def n4 : FuncId → Option FSpec := fun f => bif Nat.blt f 312 then n1 f else n3 f
theorem h4 : TabG Tryz.prog n4 := TabG.node h1 h3
noncomputable def FT : FuncId → Option FSpec := n4
theorem FT_ok : TabOK Tryz.prog FT := TabG.ok (by kernel_rfl) h4
end T0
noncomputable def isUnit (r : Option (AV × AS)) : Bool := match r with
  | some (.tup [], _) => true
  | _ => false
theorem isUnit_ok {r : Option (AV × AS)} (h : isUnit r = true) : ∃ σ', r = some (.tup [], σ') := by
  unfold isUnit at h
  split at h
  · exact ⟨_, rfl⟩
  · cases h
theorem nil_runs : isUnit ((lvA T0.FT 20 6).call 286 [.nilsl] σ0) = true := by kernel_rfl
theorem sort_nil (w : World) : CallsIn Fence.wide 0 Tryz.prog 286 #[.slice none 0 0] w fun e w' => ∃ u ι, e = .returned u ∧ Grown w w' ∧ VR ι (.tup []) u := by
  obtain ⟨σ', h⟩ := isUnit_ok nil_runs
  refine (((lv_ok T0.FT_ok 20 6).call 286 [.nilsl] σ0 _ σ' h _ w [.slice none 0 0] (R.zero _ w) (.cons .nilsl .nil)).2).mono fun e w' hp => ?_
  obtain ⟨u, ι', rfl, la, _, hv⟩ := hp
  exact ⟨u, ι', rfl, la.grown (fun _ => rfl), hv⟩
theorem sortO_row : ∀ args σ v σ', sortO args σ = some (v, σ') → ∀ ι w vs, R Tryz.prog ι σ w → VRL ι args vs → CallsIn Fence.wide 0 Tryz.prog 286 vs.toArray w (Ret Tryz.prog ι σ w σ' v) :=
  sort_told sort_nil fun blk off cap zs w hH hblk hsz => Any.slices_Sort_int Tryz.lays189 blk off cap zs w hH hblk hsz
namespace T1
noncomputable def a240 : Option FSpec := rowOf Tryz.prog Tryz.f240
theorem r240 : RowOK Tryz.prog 240 a240 := RowOK.ofFn Tryz.func240 (by kernel_rfl) (by kernel_rfl)
noncomputable def a241 : Option FSpec := rowOf Tryz.prog Tryz.f241
theorem r241 : RowOK Tryz.prog 241 a241 := RowOK.ofFn Tryz.func241 (by kernel_rfl) (by kernel_rfl)
noncomputable def a252 : Option FSpec := rowOf Tryz.prog Tryz.f252
theorem r252 : RowOK Tryz.prog 252 a252 := RowOK.ofFn Tryz.func252 (by kernel_rfl) (by kernel_rfl)
noncomputable def a286 : Option FSpec := some (.told sortO)
theorem r286 : RowOK Tryz.prog 286 a286 := RowOK.ofTold Tryz.func286 (by kernel_rfl) (by kernel_rfl) sortO_row
noncomputable def t240 : FuncId → Option FSpec := fun f => bif Nat.beq f 240 then a240 else none
theorem g240 : TabG Tryz.prog t240 := TabG.leaf r240
noncomputable def t241 : FuncId → Option FSpec := fun f => bif Nat.beq f 241 then a241 else none
theorem g241 : TabG Tryz.prog t241 := TabG.leaf r241
noncomputable def n1 : FuncId → Option FSpec := fun f => bif Nat.blt f 241 then t240 f else t241 f
theorem h1 : TabG Tryz.prog n1 := TabG.node g240 g241
noncomputable def t252 : FuncId → Option FSpec := fun f => bif Nat.beq f 252 then a252 else none
theorem g252 : TabG Tryz.prog t252 := TabG.leaf r252
noncomputable def t286 : FuncId → Option FSpec := fun f => bif Nat.beq f 286 then a286 else none
theorem g286 : TabG Tryz.prog t286 := TabG.leaf r286
noncomputable def n2 : FuncId → Option FSpec := fun f => bif Nat.blt f 286 then t252 f else t286 f
theorem h2 : TabG Tryz.prog n2 := TabG.node g252 g286
noncomputable def n3 : FuncId → Option FSpec := fun f => bif Nat.blt f 252 then n1 f else n2 f
theorem h3 : TabG Tryz.prog n3 := TabG.node h1 h2
noncomputable def FT : FuncId → Option FSpec := n3
theorem FT_ok : TabOK Tryz.prog FT := TabG.ok (by kernel_rfl) h3
end T1
#print axioms sortO_row
end Tw
