/-
  Av: what is told of store.which and store.Next: the parts that they call.
-/
import Derived.Test.YtnekfkhjokgdmaaGreatAvSort
import Derived.Test.YtnekfkhjokgdmaaGreatProg
import Derived.Shelf.Sort.Plain
import Derived.KernelRfl
set_option linter.unusedVariables false
set_option maxRecDepth 100000
namespace Go.Proofs
open Go.Shelf Go.Sort Go.RowKit
def Tryz.lays189_ren : Go.Shelf.Ren := ⟨fun | 189 => 286 | 125 => 270 | 257 => 321 | 128 => 311 | 129 => 312 | 294 => 344 | 295 => 345 | 296 => 346 | 297 => 347 | 298 => 348 | 299 => 349 | 216 => 350 | 300 => 351 | 301 => 352 | 328 => 369 | 329 => 335 | 330 => 336 | 331 => 370 | 332 => 371 | 215 => 372 | 343 => 387 | n => n, fun | 28 => 226 | 3 => 3 | 46 => 260 | 0 => 0 | 51 => 54 | 53 => 259 | 4 => 4 | 183 => 399 | 182 => 398 | 131 => 329 | 5 => 5 | 9 => 9 | 218 => 436 | 222 => 440 | 228 => 470 | 229 => 471 | n => n, fun | n => n⟩
theorem Tryz.lays189 : Go.Proofs.Lays.n189 Tryz.prog Tryz.lays189_ren where
  mixed := by kernel_rfl
  f125 := Tryz.func270.trans (congrArg some (by kernel_rfl))
  f128 := Tryz.func311.trans (congrArg some (by kernel_rfl))
  f129 := Tryz.func312.trans (congrArg some (by kernel_rfl))
  f189 := Tryz.func286.trans (congrArg some (by kernel_rfl))
  f215 := Tryz.func372.trans (congrArg some (by kernel_rfl))
  f216 := Tryz.func350.trans (congrArg some (by kernel_rfl))
  f257 := Tryz.func321.trans (congrArg some (by kernel_rfl))
  f294 := Tryz.func344.trans (congrArg some (by kernel_rfl))
  f295 := Tryz.func345.trans (congrArg some (by kernel_rfl))
  f296 := Tryz.func346.trans (congrArg some (by kernel_rfl))
  f297 := Tryz.func347.trans (congrArg some (by kernel_rfl))
  f298 := Tryz.func348.trans (congrArg some (by kernel_rfl))
  f299 := Tryz.func349.trans (congrArg some (by kernel_rfl))
  f300 := Tryz.func351.trans (congrArg some (by kernel_rfl))
  f301 := Tryz.func352.trans (congrArg some (by kernel_rfl))
  f328 := Tryz.func369.trans (congrArg some (by kernel_rfl))
  f329 := Tryz.func335.trans (congrArg some (by kernel_rfl))
  f330 := Tryz.func336.trans (congrArg some (by kernel_rfl))
  f331 := Tryz.func370.trans (congrArg some (by kernel_rfl))
  f332 := Tryz.func371.trans (congrArg some (by kernel_rfl))
  f343 := Tryz.func387.trans (congrArg some (by kernel_rfl))
  t0 := Tryz.underlying0
  a0 := Tryz.isAgg0
  z0 := Tryz.sizeOf0
  v0 := Tryz.zeroValue0
  t3 := Tryz.underlying3
  a3 := Tryz.isAgg3
  z3 := Tryz.sizeOf3
  v3 := Tryz.zeroValue3
  t4 := Tryz.underlying4
  a4 := Tryz.isAgg4
  z4 := Tryz.sizeOf4
  v4 := Tryz.zeroValue4
  t5 := Tryz.underlying5
  a5 := Tryz.isAgg5
  z5 := Tryz.sizeOf5
  v5 := Tryz.zeroValue5
  t9 := Tryz.underlying9
  a9 := Tryz.isAgg9
  z9 := Tryz.sizeOf9
  v9 := Tryz.zeroValue9
  t28 := Tryz.underlying226
  a28 := Tryz.isAgg226
  z28 := Tryz.sizeOf226
  v28 := Tryz.zeroValue226
  t46 := Tryz.underlying260
  a46 := Tryz.isAgg260
  z46 := Tryz.sizeOf260
  v46 := Tryz.zeroValue260
  t51 := Tryz.underlying54
  a51 := Tryz.isAgg54
  z51 := Tryz.sizeOf54
  v51 := Tryz.zeroValue54
  t53 := Tryz.underlying259
  a53 := Tryz.isAgg259
  z53 := Tryz.sizeOf259
  v53 := Tryz.zeroValue259
  t131 := Tryz.underlying329
  a131 := Tryz.isAgg329
  z131 := Tryz.sizeOf329
  v131 := Tryz.zeroValue329
  t182 := Tryz.underlying398
  a182 := Tryz.isAgg398
  z182 := Tryz.sizeOf398
  v182 := Tryz.zeroValue398
  t183 := Tryz.underlying399
  a183 := Tryz.isAgg399
  z183 := Tryz.sizeOf399
  v183 := Tryz.zeroValue399
  t218 := Tryz.underlying436
  a218 := Tryz.isAgg436
  z218 := Tryz.sizeOf436
  v218 := Tryz.zeroValue436
  t222 := Tryz.underlying440
  a222 := Tryz.isAgg440
  z222 := Tryz.sizeOf440
  v222 := Tryz.zeroValue440
  t228 := Tryz.underlying470
  a228 := Tryz.isAgg470
  z228 := Tryz.sizeOf470
  v228 := Tryz.zeroValue470
  t229 := Tryz.underlying471
  a229 := Tryz.isAgg471
  z229 := Tryz.sizeOf471
  v229 := Tryz.zeroValue471
end Go.Proofs
namespace Tw
open Go Go.Av Go.Proofs Go.Sort

namespace T0
noncomputable def a270 : Option FSpec := rowOf Tryz.prog Tryz.f270
theorem r270 : RowOK Tryz.prog 270 a270 := RowOK.ofFn Tryz.func270 (by kernel_rfl) (by kernel_rfl)
noncomputable def a286 : Option FSpec := rowOf Tryz.prog Tryz.f286
theorem r286 : RowOK Tryz.prog 286 a286 := RowOK.ofFn Tryz.func286 (by kernel_rfl) (by kernel_rfl)
noncomputable def a312 : Option FSpec := rowOf Tryz.prog Tryz.f312
theorem r312 : RowOK Tryz.prog 312 a312 := RowOK.ofFn Tryz.func312 (by kernel_rfl) (by kernel_rfl)
noncomputable def a321 : Option FSpec := rowOf Tryz.prog Tryz.f321
theorem r321 : RowOK Tryz.prog 321 a321 := RowOK.ofFn Tryz.func321 (by kernel_rfl) (by kernel_rfl)
noncomputable def a344 : Option FSpec := rowOf Tryz.prog Tryz.f344
theorem r344 : RowOK Tryz.prog 344 a344 := RowOK.ofFn Tryz.func344 (by kernel_rfl) (by kernel_rfl)
noncomputable def t270 : FuncId → Option FSpec := fun f => bif Nat.beq f 270 then a270 else none
theorem g270 : TabG Tryz.prog t270 := TabG.leaf r270
noncomputable def t286 : FuncId → Option FSpec := fun f => bif Nat.beq f 286 then a286 else none
theorem g286 : TabG Tryz.prog t286 := TabG.leaf r286
noncomputable def n1 : FuncId → Option FSpec := fun f => bif Nat.blt f 286 then t270 f else t286 f
theorem h1 : TabG Tryz.prog n1 := TabG.node g270 g286
noncomputable def t312 : FuncId → Option FSpec := fun f => bif Nat.beq f 312 then a312 else none
theorem g312 : TabG Tryz.prog t312 := TabG.leaf r312
noncomputable def t321 : FuncId → Option FSpec := fun f => bif Nat.beq f 321 then a321 else none
theorem g321 : TabG Tryz.prog t321 := TabG.leaf r321
noncomputable def t344 : FuncId → Option FSpec := fun f => bif Nat.beq f 344 then a344 else none
theorem g344 : TabG Tryz.prog t344 := TabG.leaf r344
noncomputable def n2 : FuncId → Option FSpec := fun f => bif Nat.blt f 344 then t321 f else t344 f
theorem h2 : TabG Tryz.prog n2 := TabG.node g321 g344
noncomputable def n3 : FuncId → Option FSpec := fun f => bif Nat.blt f 321 then t312 f else n2 f
theorem h3 : TabG Tryz.prog n3 := TabG.node g312 h2
noncomputable def n4 : FuncId → Option FSpec := fun f => bif Nat.blt f 312 then n1 f else n3 f
theorem h4 : TabG Tryz.prog n4 := TabG.node h1 h3
noncomputable def FT : FuncId → Option FSpec := n4
theorem FT_ok : TabOK Tryz.prog FT := TabG.ok (by kernel_rfl) h4
end T0
noncomputable def isUnit (r : Option (AV × AS)) : Bool := match r with
  | some (.tup [], _) => true
  | _ => false
theorem isUnit_ok {r : Option (AV × AS)} (h : isUnit r = true) : ∃ σ', r = some (.tup [], σ') := by
  unfold isUnit at h
  split at h
  · exact ⟨_, rfl⟩
  · cases h
theorem nil_runs : isUnit ((lvA T0.FT 20 6).call 286 [.nilsl] σ0) = true := by kernel_rfl
theorem sort_nil (w : World) : CallsIn Fence.wide 0 Tryz.prog 286 #[.slice none 0 0] w fun e w' => ∃ u ι, e = .returned u ∧ Grown w w' ∧ VR ι (.tup []) u := by
  obtain ⟨σ', h⟩ := isUnit_ok nil_runs
  refine (((lv_ok T0.FT_ok 20 6).call 286 [.nilsl] σ0 _ σ' h _ w [.slice none 0 0] (R.zero _ w) (.cons .nilsl .nil)).2).mono fun e w' hp => ?_
  obtain ⟨u, ι', rfl, la, _, hv⟩ := hp
  exact ⟨u, ι', rfl, la.grown (fun _ => rfl), hv⟩
theorem sortO_row : ∀ args σ v σ', sortO args σ = some (v, σ') → ∀ ι w vs, R Tryz.prog ι σ w → VRL ι args vs → CallsIn Fence.wide 0 Tryz.prog 286 vs.toArray w (Ret Tryz.prog ι σ w σ' v) :=
  sort_told sort_nil fun blk off cap zs w hH hblk hsz => Any.slices_Sort_int Tryz.lays189 blk off cap zs w hH hblk hsz
namespace T1
noncomputable def a240 : Option FSpec := rowOf Tryz.prog Tryz.f240
theorem r240 : RowOK Tryz.prog 240 a240 := RowOK.ofFn Tryz.func240 (by kernel_rfl) (by kernel_rfl)
noncomputable def a241 : Option FSpec := rowOf Tryz.prog Tryz.f241
theorem r241 : RowOK Tryz.prog 241 a241 := RowOK.ofFn Tryz.func241 (by kernel_rfl) (by kernel_rfl)
noncomputable def a252 : Option FSpec := rowOf Tryz.prog Tryz.f252
theorem r252 : RowOK Tryz.prog 252 a252 := RowOK.ofFn Tryz.func252 (by kernel_rfl) (by kernel_rfl)
noncomputable def a286 : Option FSpec := some (.told sortO)
theorem r286 : RowOK Tryz.prog 286 a286 := RowOK.ofTold Tryz.func286 (by kernel_rfl) (by kernel_rfl) sortO_row
noncomputable def t240 : FuncId → Option FSpec := fun f => bif Nat.beq f 240 then a240 else none
theorem g240 : TabG Tryz.prog t240 := TabG.leaf r240
noncomputable def t241 : FuncId → Option FSpec := fun f => bif Nat.beq f 241 then a241 else none
theorem g241 : TabG Tryz.prog t241 := TabG.leaf r241
noncomputable def n1 : FuncId → Option FSpec := fun f => bif Nat.blt f 241 then t240 f else t241 f
theorem h1 : TabG Tryz.prog n1 := TabG.node g240 g241
noncomputable def t252 : FuncId → Option FSpec := fun f => bif Nat.beq f 252 then a252 else none
theorem g252 : TabG Tryz.prog t252 := TabG.leaf r252
noncomputable def t286 : FuncId → Option FSpec := fun f => bif Nat.beq f 286 then a286 else none
theorem g286 : TabG Tryz.prog t286 := TabG.leaf r286
noncomputable def n2 : FuncId → Option FSpec := fun f => bif Nat.blt f 286 then t252 f else t286 f
theorem h2 : TabG Tryz.prog n2 := TabG.node g252 g286
noncomputable def n3 : FuncId → Option FSpec := fun f => bif Nat.blt f 252 then n1 f else n2 f
theorem h3 : TabG Tryz.prog n3 := TabG.node h1 h2
noncomputable def FT : FuncId → Option FSpec := n3
theorem FT_ok : TabOK Tryz.prog FT := TabG.ok (by kernel_rfl) h3
end T1
#print axioms sortO_row
end Tw
