/-
  Av: NodeOwner gives true.
-/
import Derived.Test.YtnekfkhjokgdmaaGreatAvAwake
import Derived.Test.YtnekfkhjokgdmaaGreatAvInt
set_option linter.unusedVariables false
set_option linter.unusedSimpArgs false
set_option maxRecDepth 100000
namespace Tw
open Go Go.Av Go.Proofs
noncomputable def giveT : List AV → AS → Option (AV × AS) := giveA (.bool true)
theorem giveT_row : ∀ args σ v σ', giveT args σ = some (v, σ') → ∀ ι w vs, R Tryz.prog ι σ w → VRL ι args vs → CallsIn Fence.wide 0 Tryz.prog 10 vs.toArray w (Ret Tryz.prog ι σ w σ' v) := told_gives awake_gives
namespace Ow
noncomputable def a5 : Option FSpec := rowOf Tryz.prog Tryz.f5
theorem r5 : RowOK Tryz.prog 5 a5 := RowOK.ofFn Tryz.func5 (by kernel_rfl) (by kernel_rfl)
noncomputable def a10 : Option FSpec := some (.told giveT)
theorem r10 : RowOK Tryz.prog 10 a10 := RowOK.ofTold Tryz.func10 (by kernel_rfl) (by kernel_rfl) giveT_row
noncomputable def a28 : Option FSpec := rowOf Tryz.prog Tryz.f28
theorem r28 : RowOK Tryz.prog 28 a28 := RowOK.ofFn Tryz.func28 (by kernel_rfl) (by kernel_rfl)
noncomputable def a29 : Option FSpec := rowOf Tryz.prog Tryz.f29
theorem r29 : RowOK Tryz.prog 29 a29 := RowOK.ofFn Tryz.func29 (by kernel_rfl) (by kernel_rfl)
noncomputable def a63 : Option FSpec := rowOf Tryz.prog Tryz.f63
theorem r63 : RowOK Tryz.prog 63 a63 := RowOK.ofFn Tryz.func63 (by kernel_rfl) (by kernel_rfl)
noncomputable def t5 : FuncId → Option FSpec := fun f => bif Nat.beq f 5 then a5 else none
theorem g5 : TabG Tryz.prog t5 := TabG.leaf r5
noncomputable def t10 : FuncId → Option FSpec := fun f => bif Nat.beq f 10 then a10 else none
theorem g10 : TabG Tryz.prog t10 := TabG.leaf r10
noncomputable def n1 : FuncId → Option FSpec := fun f => bif Nat.blt f 10 then t5 f else t10 f
theorem h1 : TabG Tryz.prog n1 := TabG.node g5 g10
noncomputable def t28 : FuncId → Option FSpec := fun f => bif Nat.beq f 28 then a28 else none
theorem g28 : TabG Tryz.prog t28 := TabG.leaf r28
noncomputable def t29 : FuncId → Option FSpec := fun f => bif Nat.beq f 29 then a29 else none
theorem g29 : TabG Tryz.prog t29 := TabG.leaf r29
noncomputable def t63 : FuncId → Option FSpec := fun f => bif Nat.beq f 63 then a63 else none
theorem g63 : TabG Tryz.prog t63 := TabG.leaf r63
noncomputable def n2 : FuncId → Option FSpec := fun f => bif Nat.blt f 63 then t29 f else t63 f
theorem h2 : TabG Tryz.prog n2 := TabG.node g29 g63
noncomputable def n3 : FuncId → Option FSpec := fun f => bif Nat.blt f 29 then t28 f else n2 f
theorem h3 : TabG Tryz.prog n3 := TabG.node g28 h2
noncomputable def n4 : FuncId → Option FSpec := fun f => bif Nat.blt f 28 then n1 f else n3 f
theorem h4 : TabG Tryz.prog n4 := TabG.node h1 h3
noncomputable def FT : FuncId → Option FSpec := n4
theorem FT_ok : TabOK Tryz.prog FT := TabG.ok (by kernel_rfl) h4
noncomputable def F5 : AFun := ⟨27, [(.tmp 2)], (.seq (.reg [⟨(some 2), (.mv (.lit (.bool false))), none⟩] none) (.seq (.seq (.reg [⟨(some 7), (.call (.lit (.fn 10 [] [])) []), none⟩, ⟨(some 8), (.un .not (.tmp 7)), none⟩] none) (.cond (.tmp 8) (.seq (.reg [⟨(some 2), (.mv (.lit (.bool false))), none⟩] none) .ret) .skip)) (.seq (.reg [⟨(some 10), (.mv (.tmp 0)), none⟩, ⟨(some 11), (.call (.lit (.fn 28 [] [])) [(.tmp 10)]), none⟩, ⟨(some 9), (.mv (.tmp 11)), none⟩, ⟨(some 12), (.ext (.tmp 9) 0), none⟩, ⟨(some 13), (.ext (.tmp 9) 1), none⟩, ⟨(some 3), (.mv (.tmp 12)), none⟩, ⟨(some 4), (.mv (.tmp 13)), none⟩] none) (.seq (.reg [⟨(some 15), (.mv (.tmp 0)), none⟩, ⟨(some 16), (.call (.lit (.fn 29 [] [])) [(.tmp 15)]), none⟩, ⟨(some 14), (.mv (.tmp 16)), none⟩, ⟨(some 17), (.ext (.tmp 14) 0), none⟩, ⟨(some 18), (.ext (.tmp 14) 1), none⟩, ⟨(some 5), (.mv (.tmp 17)), none⟩, ⟨(some 6), (.mv (.tmp 18)), none⟩] none) (.seq (.reg [⟨(some 19), (.mv (.tmp 3)), none⟩, ⟨(some 20), (.mv (.tmp 5)), none⟩, ⟨(some 21), (.bin .eql (.tmp 19) (.tmp 20)), none⟩, ⟨(some 22), (.mv (.tmp 21)), none⟩, ⟨(some 23), (.mv (.tmp 4)), (some (22, true))⟩, ⟨(some 24), (.mv (.tmp 6)), (some (22, true))⟩, ⟨(some 25), (.eq (.sc .bool) false (.tmp 23) (.tmp 24)), (some (22, true))⟩, ⟨(some 26), (.pick (.tmp 22) (.tmp 25) (.lit (.bool false))), none⟩, ⟨(some 2), (.mv (.tmp 26)), none⟩] none) .ret)))))⟩
noncomputable def F28 : AFun := ⟨37, [(.tmp 2), (.tmp 3)], (.seq (.reg [⟨(some 2), (.mv (.lit (.int .u16 0))), none⟩, ⟨(some 3), (.mv (.lit (.bool false))), none⟩] none) (.seq (.reg [⟨(some 7), (.mv (.tmp 0)), none⟩, ⟨(some 8), (.convI .i64 (.tmp 7)), none⟩, ⟨(some 9), (.bin .sub (.tmp 8) (.lit (.int .i64 16384))), none⟩, ⟨(some 10), (.bin .sub (.tmp 9) (.lit (.int .i64 1))), none⟩, ⟨(some 4), (.mv (.tmp 10)), none⟩] none) (.seq (.seq (.reg [⟨(some 11), (.mv (.tmp 4)), none⟩, ⟨(some 12), (.bin .lss (.tmp 11) (.lit (.int .i64 0))), none⟩, ⟨(some 13), (.mv (.tmp 12)), none⟩, ⟨(some 14), (.mv (.tmp 4)), (some (13, false))⟩, ⟨(some 15), (.bin .geq (.tmp 14) (.lit (.int .i64 8191))), (some (13, false))⟩, ⟨(some 16), (.pick (.tmp 13) (.lit (.bool true)) (.tmp 15)), none⟩, ⟨(some 17), (.mv (.tmp 16)), none⟩, ⟨(some 18), (.mv (.tmp 4)), (some (17, false))⟩, ⟨(some 19), (.bin .rem (.tmp 18) (.lit (.int .i64 50))), (some (17, false))⟩, ⟨(some 20), (.bin .geq (.tmp 19) (.lit (.int .i64 40))), (some (17, false))⟩, ⟨(some 21), (.pick (.tmp 17) (.lit (.bool true)) (.tmp 20)), none⟩] none) (.cond (.tmp 21) (.seq (.reg [⟨(some 2), (.mv (.lit (.int .u16 0))), none⟩, ⟨(some 3), (.mv (.lit (.bool false))), none⟩] none) .ret) .skip)) (.seq (.reg [⟨(some 22), (.mv (.tmp 4)), none⟩, ⟨(some 23), (.bin .quo (.tmp 22) (.lit (.int .i64 50))), none⟩, ⟨(some 24), (.bin .quo (.tmp 23) (.lit (.int .i64 41))), none⟩, ⟨(some 25), (.mv (.tmp 4)), none⟩, ⟨(some 26), (.bin .quo (.tmp 25) (.lit (.int .i64 50))), none⟩, ⟨(some 27), (.bin .rem (.tmp 26) (.lit (.int .i64 41))), none⟩, ⟨(some 5), (.mv (.tmp 24)), none⟩, ⟨(some 6), (.mv (.tmp 27)), none⟩] none) (.seq (.seq (.reg [⟨(some 28), (.mv (.tmp 5)), none⟩, ⟨(some 29), (.bin .geq (.tmp 28) (.lit (.int .i64 3))), none⟩, ⟨(some 30), (.mv (.tmp 29)), none⟩, ⟨(some 31), (.mv (.tmp 6)), (some (30, false))⟩, ⟨(some 32), (.bin .lss (.tmp 31) (.lit (.int .i64 1))), (some (30, false))⟩, ⟨(some 33), (.pick (.tmp 30) (.lit (.bool true)) (.tmp 32)), none⟩] none) (.cond (.tmp 33) (.seq (.reg [⟨(some 2), (.mv (.lit (.int .u16 0))), none⟩, ⟨(some 3), (.mv (.lit (.bool false))), none⟩] none) .ret) .skip)) (.seq (.reg [⟨(some 34), (.mv (.tmp 5)), none⟩, ⟨(some 35), (.mv (.tmp 6)), none⟩, ⟨(some 36), (.call (.lit (.fn 63 [] [])) [(.tmp 34), (.tmp 35)]), none⟩, ⟨(some 2), (.mv (.tmp 36)), none⟩, ⟨(some 3), (.mv (.lit (.bool true))), none⟩] none) .ret))))))⟩
noncomputable def F29 : AFun := ⟨41, [(.tmp 2), (.tmp 3)], (.seq (.reg [⟨(some 2), (.mv (.lit (.int .u16 0))), none⟩, ⟨(some 3), (.mv (.lit (.bool false))), none⟩] none) (.seq (.seq (.reg [⟨(some 8), (.mv (.tmp 0)), none⟩, ⟨(some 9), (.bin .lss (.tmp 8) (.lit (.int .u16 16385))), none⟩, ⟨(some 10), (.mv (.tmp 9)), none⟩, ⟨(some 11), (.mv (.tmp 0)), (some (10, false))⟩, ⟨(some 12), (.bin .geq (.tmp 11) (.lit (.int .u16 24576))), (some (10, false))⟩, ⟨(some 13), (.pick (.tmp 10) (.lit (.bool true)) (.tmp 12)), none⟩] none) (.cond (.tmp 13) (.seq (.reg [⟨(some 2), (.mv (.lit (.int .u16 0))), none⟩, ⟨(some 3), (.mv (.lit (.bool false))), none⟩] none) .ret) .skip)) (.seq (.reg [⟨(some 14), (.mv (.tmp 0)), none⟩, ⟨(some 15), (.convI .i64 (.tmp 14)), none⟩, ⟨(some 16), (.bin .sub (.tmp 15) (.lit (.int .i64 16385))), none⟩, ⟨(some 4), (.mv (.tmp 16)), none⟩] none) (.seq (.reg [⟨(some 17), (.mv (.tmp 4)), none⟩, ⟨(some 18), (.bin .rem (.tmp 17) (.lit (.int .i64 50))), none⟩, ⟨(some 5), (.mv (.tmp 18)), none⟩] none) (.seq (.reg [⟨(some 19), (.mv (.tmp 4)), none⟩, ⟨(some 20), (.bin .quo (.tmp 19) (.lit (.int .i64 50))), none⟩, ⟨(some 21), (.bin .quo (.tmp 20) (.lit (.int .i64 41))), none⟩, ⟨(some 6), (.mv (.tmp 21)), none⟩] none) (.seq (.reg [⟨(some 22), (.mv (.tmp 4)), none⟩, ⟨(some 23), (.bin .quo (.tmp 22) (.lit (.int .i64 50))), none⟩, ⟨(some 24), (.bin .rem (.tmp 23) (.lit (.int .i64 41))), none⟩, ⟨(some 7), (.mv (.tmp 24)), none⟩] none) (.seq (.seq (.reg [⟨(some 25), (.mv (.tmp 5)), none⟩, ⟨(some 26), (.bin .gtr (.tmp 25) (.lit (.int .i64 39))), none⟩, ⟨(some 27), (.mv (.tmp 26)), none⟩, ⟨(some 28), (.mv (.tmp 6)), (some (27, false))⟩, ⟨(some 29), (.bin .gtr (.tmp 28) (.lit (.int .i64 2))), (some (27, false))⟩, ⟨(some 30), (.pick (.tmp 27) (.lit (.bool true)) (.tmp 29)), none⟩, ⟨(some 31), (.mv (.tmp 30)), none⟩, ⟨(some 32), (.mv (.tmp 7)), (some (31, false))⟩, ⟨(some 33), (.bin .lss (.tmp 32) (.lit (.int .i64 1))), (some (31, false))⟩, ⟨(some 34), (.pick (.tmp 31) (.lit (.bool true)) (.tmp 33)), none⟩] none) (.cond (.tmp 34) (.seq (.reg [⟨(some 2), (.mv (.lit (.int .u16 0))), none⟩, ⟨(some 3), (.mv (.lit (.bool false))), none⟩] none) .ret) .skip)) (.seq (.reg [⟨(some 35), (.mv (.tmp 6)), none⟩, ⟨(some 36), (.bin .mul (.lit (.int .i64 50)) (.tmp 35)), none⟩, ⟨(some 37), (.bin .add (.lit (.int .i64 8292)) (.tmp 36)), none⟩, ⟨(some 38), (.mv (.tmp 7)), none⟩, ⟨(some 39), (.bin .add (.tmp 37) (.tmp 38)), none⟩, ⟨(some 40), (.convI .u16 (.tmp 39)), none⟩, ⟨(some 2), (.mv (.tmp 40)), none⟩, ⟨(some 3), (.mv (.lit (.bool true))), none⟩] none) .ret))))))))⟩
noncomputable def F63 : AFun := ⟨11, [(.tmp 4)], (.seq (.reg [⟨(some 4), (.mv (.lit (.int .u16 0))), none⟩] none) (.seq (.reg [⟨(some 5), (.mv (.tmp 0)), none⟩, ⟨(some 6), (.bin .mul (.lit (.int .i64 50)) (.tmp 5)), none⟩, ⟨(some 7), (.bin .add (.lit (.int .i64 8292)) (.tmp 6)), none⟩, ⟨(some 8), (.mv (.tmp 1)), none⟩, ⟨(some 9), (.bin .add (.tmp 7) (.tmp 8)), none⟩, ⟨(some 10), (.convI .u16 (.tmp 9)), none⟩, ⟨(some 4), (.mv (.tmp 10)), none⟩] none) .ret))⟩
theorem at5 : FT 5 = some (.code F5) := by kernel_rfl
theorem at10 : FT 10 = some (.told giveT) := by kernel_rfl
theorem at28 : FT 28 = some (.code F28) := by kernel_rfl
theorem at29 : FT 29 = some (.code F29) := by kernel_rfl
theorem at63 : FT 63 = some (.code F63) := by kernel_rfl
/-- What both say. -/
noncomputable def own (a : Int) : Int × Bool :=
  if a < 16385 ∨ 24576 ≤ a then (0, false) else if 40 ≤ (a - 16385) % 50 then (0, false) else if 3 ≤ (a - 16385) / 50 / 41 ∨ (a - 16385) / 50 % 41 < 1 then (0, false) else (8292 + 50 * ((a - 16385) / 50 / 41) + (a - 16385) / 50 % 41, true)
theorem args1 (x : AV) : argsTM [x] 0 .nil = TM.put .nil 0 x := rfl
theorem call_code' {F : FuncId → Option FSpec} {n d : Nat} {f : FuncId} {fn : AFun} {args : List AV} {σ : AS} (hF : F f = some (.code fn)) (ha : Nat.ble args.length fn.ntmps = true) : (lvA F n (d + 1)).call f args σ = match codeA (lvA F n d) n fn.body (argsTM args 0 .nil) σ with
    | some (.normal, ts, σ') => (match resV ts σ' fn.results with | some l => some (resUp l, σ') | none => none)
    | some (.ret, ts, σ') => (match resV ts σ' fn.results with | some l => some (resUp l, σ') | none => none)
    | _ => none := by
  rw [call_eq]
  unfold callB
  rw [hF]
  simp only [ha, Bool.not_true, cond_false]
  rfl
theorem run63 (n d : Nat) (σ : AS) {i k : Int} (h1 : 0 ≤ i) (h2 : i < 3) (h3 : 1 ≤ k) (h4 : k < 41) : (lvA FT n (d + 1)).call 63 [.int .i64 i, .int .i64 k] σ = some (.int .u16 (8292 + 50 * i + k), σ) := by
  rw [call_code' at63 rfl, args2]
  have e1 : binA .mul (.int .i64 50) (.int .i64 i) = some (.int .i64 (50 * i)) := b_mul rfl (by omega) (by omega)
  have e2 : binA .add (.int .i64 8292) (.int .i64 (50 * i)) = some (.int .i64 (8292 + 50 * i)) := b_add rfl (by omega) (by omega)
  have e3 : binA .add (.int .i64 (8292 + 50 * i)) (.int .i64 k) = some (.int .i64 (8292 + 50 * i + k)) := b_add rfl (by omega) (by omega)
  have e4 : wrapA .u16 (8292 + 50 * i + k) = 8292 + 50 * i + k := wrap16 (by omega) (by omega)
  simp [F63, c_seq, c_reg, o_cons, opsA_nil, wantedA, opA, execA, exMv, exBin, exConvI, evA, p_some, TM.at_put, e1, e2, e3, e4, code_ret, resV, resUp]
theorem run28 (n d : Nat) (σ : AS) {a : Int} (h1 : 0 ≤ a) (h2 : a < 65536) : (lvA FT n (d + 2)).call 28 [.int .u16 a] σ = some (.tup [.int .u16 (own a).1, .bool (own a).2], σ) := by
  rw [call_code' at28 rfl, args1]
  have e0 : wrapA .i64 a = a := wrap64 (by omega) (by omega)
  have e1 : binA .sub (.int .i64 a) (.int .i64 16384) = some (.int .i64 (a - 16384)) := b_sub rfl (by omega) (by omega)
  have e2 : binA .sub (.int .i64 (a - 16384)) (.int .i64 1) = some (.int .i64 (a - 16385)) := b_sub (by omega) (by omega) (by omega)
  unfold own
  by_cases c1 : a < 16385
  · have f1 : a - 16385 < 0 := by omega
    rw [if_pos (.inl c1)]
    simp [F28, c_seq, c_reg, c_cond, o_cons, opsA_nil, wantedA, opA, execA, exMv, exBin, exConvI, exPick, evA, p_some, TM.at_put, undefA, e0, e1, e2, b_lss, b_geq, f1, code_ret, resV, resUp]
  by_cases c2 : 24576 ≤ a
  · have f1 : ¬ a - 16385 < 0 := by omega
    have f2 : 8191 ≤ a - 16385 := by omega
    rw [if_pos (.inr c2)]
    simp [F28, c_seq, c_reg, c_cond, o_cons, opsA_nil, wantedA, opA, execA, exMv, exBin, exConvI, exPick, evA, p_some, TM.at_put, undefA, e0, e1, e2, b_lss, b_geq, f1, f2, code_ret, resV, resUp]
  rw [if_neg (by omega)]
  generalize ht : a - 16385 = t at *
  have t0 : 0 ≤ t := by omega
  have t1 : t < 8191 := by omega
  have f1 : ¬ t < 0 := by omega
  have f2 : ¬ 8191 ≤ t := by omega
  have e3 : binA .rem (.int .i64 t) (.int .i64 50) = some (.int .i64 (t % 50)) := b_rem rfl t0 (by omega)
  by_cases c3 : 40 ≤ t % 50
  · rw [if_pos c3]
    simp [F28, c_seq, c_reg, c_cond, o_cons, opsA_nil, wantedA, opA, execA, exMv, exBin, exConvI, exPick, evA, p_some, TM.at_put, undefA, e0, e1, e2, e3, b_lss, b_geq, f1, f2, c3, code_ret, resV, resUp]
  rw [if_neg c3]
  have e4 : binA .quo (.int .i64 t) (.int .i64 50) = some (.int .i64 (t / 50)) := b_quo rfl t0 (by omega) (by omega) (by omega)
  have e5 : binA .quo (.int .i64 (t / 50)) (.int .i64 41) = some (.int .i64 (t / 50 / 41)) := b_quo rfl (by omega) (by omega) (by omega) (by omega)
  have e6 : binA .rem (.int .i64 (t / 50)) (.int .i64 41) = some (.int .i64 (t / 50 % 41)) := b_rem rfl (by omega) (by omega)
  by_cases c4 : 3 ≤ t / 50 / 41
  · rw [if_pos (.inl c4)]
    simp [F28, c_seq, c_reg, c_cond, code_skip, o_cons, opsA_nil, wantedA, opA, execA, exMv, exBin, exConvI, exPick, evA, p_some, TM.at_put, undefA, e0, e1, e2, e3, e4, e5, e6, b_lss, b_geq, f1, f2, c3, c4, code_ret, resV, resUp]
  by_cases c5 : t / 50 % 41 < 1
  · rw [if_pos (.inr c5)]
    simp [F28, c_seq, c_reg, c_cond, code_skip, o_cons, opsA_nil, wantedA, opA, execA, exMv, exBin, exConvI, exPick, evA, p_some, TM.at_put, undefA, e0, e1, e2, e3, e4, e5, e6, b_lss, b_geq, f1, f2, c3, c4, c5, code_ret, resV, resUp]
  rw [if_neg (by omega)]
  have hc := run63 n d σ (i := t / 50 / 41) (k := t / 50 % 41) (by omega) (by omega) (by omega) (by omega)
  simp [F28, c_seq, c_reg, c_cond, code_skip, o_cons, opsA_nil, wantedA, opA, execA, exMv, exBin, exConvI, exPick, evA, evL, p_some, TM.at_put, undefA, e0, e1, e2, e3, e4, e5, e6, b_lss, b_geq, f1, f2, c3, c4, c5, hc, code_ret, resV, resUp]
theorem run29 (n d : Nat) (σ : AS) {a : Int} (h1 : 0 ≤ a) (h2 : a < 65536) : (lvA FT n (d + 2)).call 29 [.int .u16 a] σ = some (.tup [.int .u16 (own a).1, .bool (own a).2], σ) := by
  rw [call_code' at29 rfl, args1]
  unfold own
  by_cases c1 : a < 16385
  · rw [if_pos (.inl c1)]
    simp [F29, c_seq, c_reg, c_cond, o_cons, opsA_nil, wantedA, opA, execA, exMv, exBin, exConvI, exPick, evA, p_some, TM.at_put, undefA, b_lss, b_geq, c1, code_ret, resV, resUp]
  by_cases c2 : 24576 ≤ a
  · rw [if_pos (.inr c2)]
    simp [F29, c_seq, c_reg, c_cond, o_cons, opsA_nil, wantedA, opA, execA, exMv, exBin, exConvI, exPick, evA, p_some, TM.at_put, undefA, b_lss, b_geq, c1, c2, code_ret, resV, resUp]
  rw [if_neg (by omega)]
  have e0 : wrapA .i64 a = a := wrap64 (by omega) (by omega)
  have e1 : binA .sub (.int .i64 a) (.int .i64 16385) = some (.int .i64 (a - 16385)) := b_sub rfl (by omega) (by omega)
  generalize ht : a - 16385 = t at *
  have t0 : 0 ≤ t := by omega
  have t1 : t < 8191 := by omega
  have e3 : binA .rem (.int .i64 t) (.int .i64 50) = some (.int .i64 (t % 50)) := b_rem rfl t0 (by omega)
  have e4 : binA .quo (.int .i64 t) (.int .i64 50) = some (.int .i64 (t / 50)) := b_quo rfl t0 (by omega) (by omega) (by omega)
  have e5 : binA .quo (.int .i64 (t / 50)) (.int .i64 41) = some (.int .i64 (t / 50 / 41)) := b_quo rfl (by omega) (by omega) (by omega) (by omega)
  have e6 : binA .rem (.int .i64 (t / 50)) (.int .i64 41) = some (.int .i64 (t / 50 % 41)) := b_rem rfl (by omega) (by omega)
  by_cases c3 : 40 ≤ t % 50
  · have f3 : 39 < t % 50 := by omega
    rw [if_pos c3]
    simp [F29, c_seq, c_reg, c_cond, code_skip, o_cons, opsA_nil, wantedA, opA, execA, exMv, exBin, exConvI, exPick, evA, p_some, TM.at_put, undefA, e0, e1, e3, e4, e5, e6, b_lss, b_gtr, b_geq, c1, c2, f3, code_ret, resV, resUp]
  rw [if_neg c3]
  have f3 : ¬ 39 < t % 50 := by omega
  by_cases c4 : 3 ≤ t / 50 / 41
  · have f4 : 2 < t / 50 / 41 := by omega
    rw [if_pos (.inl c4)]
    simp [F29, c_seq, c_reg, c_cond, code_skip, o_cons, opsA_nil, wantedA, opA, execA, exMv, exBin, exConvI, exPick, evA, p_some, TM.at_put, undefA, e0, e1, e3, e4, e5, e6, b_lss, b_gtr, b_geq, c1, c2, f3, f4, code_ret, resV, resUp]
  have f4 : ¬ 2 < t / 50 / 41 := by omega
  by_cases c5 : t / 50 % 41 < 1
  · rw [if_pos (.inr c5)]
    simp [F29, c_seq, c_reg, c_cond, code_skip, o_cons, opsA_nil, wantedA, opA, execA, exMv, exBin, exConvI, exPick, evA, p_some, TM.at_put, undefA, e0, e1, e3, e4, e5, e6, b_lss, b_gtr, b_geq, c1, c2, f3, f4, c5, code_ret, resV, resUp]
  rw [if_neg (by omega)]
  have e7 : binA .mul (.int .i64 50) (.int .i64 (t / 50 / 41)) = some (.int .i64 (50 * (t / 50 / 41))) := b_mul rfl (by omega) (by omega)
  have e8 : binA .add (.int .i64 8292) (.int .i64 (50 * (t / 50 / 41))) = some (.int .i64 (8292 + 50 * (t / 50 / 41))) := b_add rfl (by omega) (by omega)
  have e9 : binA .add (.int .i64 (8292 + 50 * (t / 50 / 41))) (.int .i64 (t / 50 % 41)) = some (.int .i64 (8292 + 50 * (t / 50 / 41) + t / 50 % 41)) := b_add rfl (by omega) (by omega)
  have e10 : wrapA .u16 (8292 + 50 * (t / 50 / 41) + t / 50 % 41) = 8292 + 50 * (t / 50 / 41) + t / 50 % 41 := wrap16 (by omega) (by omega)
  simp [F29, c_seq, c_reg, c_cond, code_skip, o_cons, opsA_nil, wantedA, opA, execA, exMv, exBin, exConvI, exPick, evA, p_some, TM.at_put, undefA, e0, e1, e3, e4, e5, e6, e7, e8, e9, e10, b_lss, b_gtr, b_geq, c1, c2, f3, f4, c5, code_ret, resV, resUp]
theorem run10 (n d : Nat) (σ : AS) : (lvA FT n (d + 1)).call 10 [] σ = some (.bool true, σ) := by
  rw [call_eq]
  unfold callB
  rw [at10]
  rfl
theorem run5 (n d : Nat) (σ : AS) {a : Int} (h1 : 0 ≤ a) (h2 : a < 65536) : (lvA FT n (d + 3)).call 5 [.int .u16 a] σ = some (.bool true, σ) := by
  rw [call_code' at5 rfl, args1]
  have r10 := run10 n (d + 1) σ
  have r28 := run28 n d σ h1 h2
  have r29 := run29 n d σ h1 h2
  have hb : ∀ b : Bool, eqA (.sc .bool) (.bool b) (.bool b) = some true := fun b => by cases b <;> rfl
  simp [F5, c_seq, c_reg, c_cond, code_skip, o_cons, opsA_nil, wantedA, opA, execA, exMv, exBin, exUn, exExt, exPick, exEq, evA, evL, p_some, TM.at_put, undefA, r10, r28, r29, unNot, b_eql, hb, code_ret, resV, resUp]
end Ow
theorem owner_walk (a : Int) (h1 : 0 ≤ a) (h2 : a < 65536) (w : World) : Calls Tryz.prog 5 #[.int .u16 a] w fun e w' => e = .returned (.bool true) ∧ Go.Av.Grown w w' := by
  refine (calls_ok Ow.FT_ok (Ow.run5 9 0 σ0 h1 h2) (R.zero _ w) (.cons (.int .u16 a) .nil)).mono fun e w' hp => ?_
  obtain ⟨u, ι', rfl, la, _, hv⟩ := hp
  exact ⟨by rw [hv.bool_inv], la.grown fun _ => rfl⟩
#print axioms owner_walk
end Tw
