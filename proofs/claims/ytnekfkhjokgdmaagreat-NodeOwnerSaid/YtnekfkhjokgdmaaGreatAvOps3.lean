/-
  Av: the operations, further: numbers, strings, cuts, addresses.
-/
import Derived.Test.YtnekfkhjokgdmaaGreatAvOps2
import Derived.Laws.BitsLemmas
import Derived.Laws.Strings
set_option linter.unusedVariables false
namespace Go.Av
section
variable {P : Program} {ι : Emb} {σ σ' : AS} {w : World} {ts : TM} {a : Act} {v : AV}

/-! ### Whole numbers -/
theorem wrapA_eq (k : IntKind) (n : Int) : wrapA k n = k.wrap n := by
  unfold wrapA
  split
  · rename_i m
    cases h : Nat.blt m 9223372036854775808 with
    | false => simp
    | true =>
      have := Nat.blt_eq ▸ h
      simp only [cond_true]
      rw [IntKind.wrap_i64]
      have h' : m < 9223372036854775808 := by simpa using h
      show (m : Int) = ((m : Int) + 9223372036854775808) % 18446744073709551616 - 9223372036854775808
      omega
  · rename_i m
    rw [IntKind.wrap_u8]
    show ((m % 256 : Nat) : Int) = (m : Int) % 256
    omega
  · rename_i m
    have : IntKind.u16.wrap (Int.ofNat m) = (Int.ofNat m) % 65536 := by simp [IntKind.wrap, IntKind.bits, IntKind.signed]
    rw [this]
    show ((m % 65536 : Nat) : Int) = (m : Int) % 65536
    omega
  · rename_i m
    have : IntKind.u64.wrap (Int.ofNat m) = (Int.ofNat m) % 18446744073709551616 := by simp [IntKind.wrap, IntKind.bits, IntKind.signed]
    rw [this]
    show ((m % 18446744073709551616 : Nat) : Int) = (m : Int) % 18446744073709551616
    omega
  · rfl
theorem leB_eq (a b : Int) : leB a b = decide (a ≤ b) := by
  cases a <;> cases b
  · rename_i a b; show Nat.ble a b = _; rw [Bool.eq_iff_iff]; simp
  · rename_i a b; show false = _; symm; rw [decide_eq_false_iff_not]; simp only [Int.ofNat_eq_natCast, Int.negSucc_eq]; omega
  · rename_i a b; show true = _; symm; rw [decide_eq_true_iff]; simp only [Int.ofNat_eq_natCast, Int.negSucc_eq]; omega
  · rename_i a b; show Nat.ble b a = _; rw [Bool.eq_iff_iff]; simp; omega
theorem ltB_eq (a b : Int) : ltB a b = decide (a < b) := by
  unfold ltB
  rw [leB_eq, Bool.eq_iff_iff]
  simp
theorem eqI_eq (a b : Int) : eqI a b = (a == b) := by
  cases a <;> cases b
  · rename_i a b; show Nat.beq a b = _; rw [Bool.eq_iff_iff]; simp [Nat.beq_eq]; omega
  · rename_i a b; show false = _; symm; rw [beq_eq_false_iff_ne]; simp only [Int.ofNat_eq_natCast, Int.negSucc_eq]; omega
  · rename_i a b; show false = _; symm; rw [beq_eq_false_iff_ne]; simp only [Int.ofNat_eq_natCast, Int.negSucc_eq]; omega
  · rename_i a b; show Nat.beq a b = _; rw [Bool.eq_iff_iff]; simp [Nat.beq_eq]
theorem kEq_eq {j k : IntKind} (h : kEq j k = true) : j = k := by
  cases j <;> cases k <;> first | rfl | (simp [kEq, kNo] at h)
theorem VR.int_inv {k : IntKind} {n : Int} {u : Value} (h : VR ι (.int k n) u) : u = .int k n := by cases h; rfl
theorem VR.str_inv {s : List UInt8} {u : Value} (h : VR ι (.str s) u) : u = .string ⟨s.toArray⟩ := by cases h; rfl
theorem VR.bool_inv {b : Bool} {u : Value} (h : VR ι (.bool b) u) : u = .bool b := by cases h; rfl

theorem eqBytes_eq (l m : List UInt8) : eqBytes l m = (l == m) := by
  induction l generalizing m with
  | nil => cases m <;> rfl
  | cons a l ih =>
    cases m with
    | nil => rfl
    | cons b m =>
      have e : eqBytes (a :: l) (b :: m) = (bif Nat.beq a.toNat b.toNat then eqBytes l m else false) := rfl
      rw [e, ih]
      by_cases h : a = b
      · subst h
        have : Nat.beq a.toNat a.toNat = true := by rw [Nat.beq_eq]
        rw [this]
        simp
      · have : Nat.beq a.toNat b.toNat = false := by
          cases hb : Nat.beq a.toNat b.toNat with
          | false => rfl
          | true => exact absurd (UInt8.toNat_inj.1 (Nat.eq_of_beq_eq_true hb)) h
        rw [this]
        simp [h]
theorem ltBytes_eq (l m : List UInt8) : ltBytes l m = Op.bytesLess l m := by
  induction l generalizing m with
  | nil => cases m <;> rfl
  | cons a l ih =>
    cases m with
    | nil => rfl
    | cons b m =>
      have e : ltBytes (a :: l) (b :: m) = (bif Nat.blt a.toNat b.toNat then true else bif Nat.beq a.toNat b.toNat then ltBytes l m else false) := rfl
      rw [e, ih]
      have e2 : Op.bytesLess (a :: l) (b :: m) = (decide (a < b) || (a == b && Op.bytesLess l m)) := by rw [Op.bytesLess]
      rw [e2]
      have h1 : (decide (a < b)) = Nat.blt a.toNat b.toNat := by
        rw [Bool.eq_iff_iff]; simp [UInt8.lt_iff_toNat_lt]
      have h2 : (a == b) = Nat.beq a.toNat b.toNat := by
        rw [Bool.eq_iff_iff]; simp [Nat.beq_eq, UInt8.toNat_inj]
      rw [h1, h2]
      cases Nat.blt a.toNat b.toNat <;> cases Nat.beq a.toNat b.toNat <;> simp
@[simp] theorem toList_mk (s : List UInt8) : (ByteArray.mk s.toArray).toList = s := by rw [ByteArray.toList_eq]

theorem bitsA_ok {op : BinOp} {k : IntKind} {x y n : Int} (h : bitsA op k x y = some n) : (Op.intBits op k x y).run P w = .ok (.int k n) w := by
  unfold bitsA at h
  have e1 : (BitVec.ofInt k.bits x).toNat = (x % (2 ^ k.bits : Nat)).toNat := BitVec.toNat_ofInt _
  have e2 : (BitVec.ofInt k.bits y).toNat = (y % (2 ^ k.bits : Nat)).toNat := BitVec.toNat_ofInt _
  split at h
  · injection h with h; subst h
    rw [wrapA_eq]
    show Result.ok (Value.int k (k.wrap ((BitVec.ofInt k.bits x &&& BitVec.ofInt k.bits y).toNat : Int))) w = _
    rw [BitVec.toNat_and, e1, e2]; rfl
  · injection h with h; subst h
    rw [wrapA_eq]
    show Result.ok (Value.int k (k.wrap ((BitVec.ofInt k.bits x ||| BitVec.ofInt k.bits y).toNat : Int))) w = _
    rw [BitVec.toNat_or, e1, e2]; rfl
  · injection h with h; subst h
    rw [wrapA_eq]
    show Result.ok (Value.int k (k.wrap ((BitVec.ofInt k.bits x ^^^ BitVec.ofInt k.bits y).toNat : Int))) w = _
    rw [BitVec.toNat_xor, e1, e2]; rfl
  · cases h

theorem binInt_ok {op : BinOp} {k : IntKind} {x y : Int} {t : TypeId} (hs : op ≠ .shl) (hs' : op ≠ .shr) (h : binInt op k x y = some v) : ∃ u, (binOp op t (.int k x) (.int k y)).run P w = .ok u w ∧ VR ι v u := by
  unfold binInt at h
  cases op <;> simp only at h <;> try (cases h; done)
  case quo =>
    rw [eqI_eq] at h
    by_cases hy : y = 0
    · subst hy; simp at h
    · have : (y == 0) = false := by rw [beq_eq_false_iff_ne]; exact hy
      rw [this] at h
      injection h with h; subst h
      rw [wrapA_eq]
      exact ⟨_, by simp [binOp, Op.intDiv, hy], .int _ _⟩
  case rem =>
    rw [eqI_eq] at h
    by_cases hy : y = 0
    · subst hy; simp at h
    · have : (y == 0) = false := by rw [beq_eq_false_iff_ne]; exact hy
      rw [this] at h
      injection h with h; subst h
      exact ⟨_, by simp [binOp, Op.intDiv, hy], .int _ _⟩
  case and => split at h
              · rename_i n hn; injection h with h; subst h; exact ⟨_, by simp only [binOp]; simpa using bitsA_ok hn, .int _ _⟩
              · cases h
  case or => split at h
             · rename_i n hn; injection h with h; subst h; exact ⟨_, by simp only [binOp]; simpa using bitsA_ok hn, .int _ _⟩
             · cases h
  case xor => split at h
              · rename_i n hn; injection h with h; subst h; exact ⟨_, by simp only [binOp]; simpa using bitsA_ok hn, .int _ _⟩
              · cases h
  all_goals
    injection h with h; subst h
    try rw [wrapA_eq]
    try rw [leB_eq]
    try rw [ltB_eq]
    try rw [eqI_eq]
    first
    | exact ⟨_, by simp [binOp, Op.intArith]; rfl, .int _ _⟩
    | exact ⟨_, by simp [binOp, Op.intCmp]; rfl, .bool _⟩
    | exact ⟨_, by simp [binOp, Op.intArith], .int _ _⟩
    | exact ⟨_, by simp [binOp, Op.intCmp], .bool _⟩
theorem shiftInt_ok {op : BinOp} {k k' : IntKind} {x y : Int} {t : TypeId} (h : shiftInt op k x y = some v) : ∃ u, (binOp op t (.int k x) (.int k' y)).run P w = .ok u w ∧ VR ι v u := by
  unfold shiftInt at h
  split at h
  · rename_i n
    injection h with h; subst h
    rw [wrapA_eq]
    have hn : ¬ (Int.ofNat n < 0) := by show ¬ ((n : Int) < 0); omega
    refine ⟨_, ?_, .int _ _⟩
    simp only [binOp, Op.shift]
    rw [if_neg hn]
    simp
  · rename_i n
    injection h with h; subst h
    have hn : ¬ (Int.ofNat n < 0) := by show ¬ ((n : Int) < 0); omega
    refine ⟨_, ?_, .int _ _⟩
    simp only [binOp, Op.shift]
    rw [if_neg hn]
    simp
  · cases h
theorem binStr_ok {op : BinOp} {x y : List UInt8} {t : TypeId} (h : binStr op x y = some v) : ∃ u, (binOp op t (.string ⟨x.toArray⟩) (.string ⟨y.toArray⟩)).run P w = .ok u w ∧ VR ι v u := by
  unfold binStr at h
  cases op <;> simp only at h <;> try (cases h; done)
  case add =>
    cases hb : Nat.ble (x.length + y.length) 9223372036854775807 with
    | false => rw [hb] at h; cases h
    | true =>
      rw [hb] at h
      injection h with h; subst h
      have hle := Nat.le_of_ble_eq_true hb
      refine ⟨_, ?_, .str _⟩
      have hm : IntKind.i64.max = 9223372036854775807 := by simp [IntKind.max, IntKind.signed, IntKind.bits]
      have e : (ByteArray.mk x.toArray ++ ByteArray.mk y.toArray) = ByteArray.mk (x ++ y).toArray := by
        apply ByteArray.ext; simp
      simp only [binOp, Op.stringOp]
      rw [if_neg (by rw [hm]; show ¬ (((x.toArray.size + y.toArray.size : Nat)) : Int) > _; simp; omega)]
      simp [e]
  all_goals
    injection h with h; subst h
    simp only [ltBytes_eq, eqBytes_eq]
    exact ⟨_, by simp only [binOp, Op.stringOp, toList_mk]; rfl, .bool _⟩
end
end Go.Av
