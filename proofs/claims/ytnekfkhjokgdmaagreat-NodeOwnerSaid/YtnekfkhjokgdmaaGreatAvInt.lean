/-
  Av: whole numbers of open terms.
-/
import Derived.Test.YtnekfkhjokgdmaaGreatAvSim
import Derived.Laws.BitsAllLaws
import Derived.Laws.BitsLemmas
set_option linter.unusedVariables false
namespace Go.Av
theorem wrap64 {n : Int} (h1 : -9223372036854775808 ≤ n) (h2 : n < 9223372036854775808) : wrapA .i64 n = n := by
  rw [wrapA_eq, IntKind.wrap_i64]; omega
theorem wrap16 {n : Int} (h1 : 0 ≤ n) (h2 : n < 65536) : wrapA .u16 n = n := by
  rw [wrapA_eq, IntKind.wrap_u16]; omega
theorem b_lss (k : IntKind) (a b : Int) : binA .lss (.int k a) (.int k b) = some (.bool (decide (a < b))) := by
  have : binA .lss (.int k a) (.int k b) = some (.bool (ltB a b)) := by cases k <;> rfl
  rw [this, ltB_eq]
theorem b_gtr (k : IntKind) (a b : Int) : binA .gtr (.int k a) (.int k b) = some (.bool (decide (b < a))) := by
  have : binA .gtr (.int k a) (.int k b) = some (.bool (ltB b a)) := by cases k <;> rfl
  rw [this, ltB_eq]
theorem b_leq (k : IntKind) (a b : Int) : binA .leq (.int k a) (.int k b) = some (.bool (decide (a ≤ b))) := by
  have : binA .leq (.int k a) (.int k b) = some (.bool (leB a b)) := by cases k <;> rfl
  rw [this, leB_eq]
theorem b_geq (k : IntKind) (a b : Int) : binA .geq (.int k a) (.int k b) = some (.bool (decide (b ≤ a))) := by
  have : binA .geq (.int k a) (.int k b) = some (.bool (leB b a)) := by cases k <;> rfl
  rw [this, leB_eq]
theorem b_eql (k : IntKind) (a b : Int) : binA .eql (.int k a) (.int k b) = some (.bool (a == b)) := by
  have : binA .eql (.int k a) (.int k b) = some (.bool (eqI a b)) := by cases k <;> rfl
  rw [this, eqI_eq]
theorem b_add {a b c : Int} (h : a + b = c) (h1 : -9223372036854775808 ≤ c) (h2 : c < 9223372036854775808) : binA .add (.int .i64 a) (.int .i64 b) = some (.int .i64 c) := by
  have : binA .add (.int .i64 a) (.int .i64 b) = some (.int .i64 (wrapA .i64 (a + b))) := rfl
  rw [this, h, wrap64 h1 h2]
theorem b_sub {a b c : Int} (h : a - b = c) (h1 : -9223372036854775808 ≤ c) (h2 : c < 9223372036854775808) : binA .sub (.int .i64 a) (.int .i64 b) = some (.int .i64 c) := by
  have : binA .sub (.int .i64 a) (.int .i64 b) = some (.int .i64 (wrapA .i64 (a - b))) := rfl
  rw [this, h, wrap64 h1 h2]
theorem b_mul {a b c : Int} (h : a * b = c) (h1 : -9223372036854775808 ≤ c) (h2 : c < 9223372036854775808) : binA .mul (.int .i64 a) (.int .i64 b) = some (.int .i64 c) := by
  have : binA .mul (.int .i64 a) (.int .i64 b) = some (.int .i64 (wrapA .i64 (a * b))) := rfl
  rw [this, h, wrap64 h1 h2]
theorem eqI_ne {a b : Int} (h : a ≠ b) : eqI a b = false := by rw [eqI_eq]; simpa using h
theorem b_quo {a b c : Int} (h : a / b = c) (ha : 0 ≤ a) (hb : 0 < b) (h1 : -9223372036854775808 ≤ c) (h2 : c < 9223372036854775808) : binA .quo (.int .i64 a) (.int .i64 b) = some (.int .i64 c) := by
  have : binA .quo (.int .i64 a) (.int .i64 b) = (bif eqI b 0 then none else some (.int .i64 (wrapA .i64 (a.tdiv b)))) := rfl
  rw [this, eqI_ne (by omega), cond_false, Int.tdiv_eq_ediv_of_nonneg ha, h, wrap64 h1 h2]
theorem b_rem {a b c : Int} (h : a % b = c) (ha : 0 ≤ a) (hb : 0 < b) : binA .rem (.int .i64 a) (.int .i64 b) = some (.int .i64 c) := by
  have : binA .rem (.int .i64 a) (.int .i64 b) = (bif eqI b 0 then none else some (.int .i64 (a.tmod b))) := rfl
  rw [this, eqI_ne (by omega), cond_false, Int.tmod_eq_emod_of_nonneg ha, h]
end Go.Av
