/-
  Av: tables of functions, and the check of a literal state.
-/
import Derived.Test.YtnekfkhjokgdmaaGreatAvTop
set_option linter.unusedVariables false
namespace Go.Av

section
variable {P : Program}
/-- One function's row. -/
structure RowOK (P : Program) (k : FuncId) (sp : Option FSpec) : Prop where
  opens : ∀ s, sp = some s → Opens P k
  code : ∀ af, sp = some (.code af) → ∃ fn, P.funcs[k]? = some fn ∧ cFun P fn = some af
  told : ∀ g, sp = some (.told g) → ∀ args σ v σ', g args σ = some (v, σ') → ∀ ι w vs, R P ι σ w → VRL ι args vs → CallsIn Fence.wide 0 P k vs.toArray w (Ret P ι σ w σ' v)
theorem RowOK.none (P : Program) (k : FuncId) : RowOK P k .none := ⟨fun _ h => by (cases h), fun _ h => by (cases h), fun _ h => by (cases h)⟩
def rowOf (P : Program) (fn : Func) : Option FSpec := match cFun P fn with | some f => some (.code f) | none => none
theorem RowOK.ofFn {k : FuncId} {fn : Func} (hf : P.funcs[k]? = some fn) (hn : (fn.name == "runtime.NumGoroutine") = false) (hb : fn.body.isNone = false) : RowOK P k (rowOf P fn) := by
  unfold rowOf
  split
  · rename_i af h
    refine ⟨fun _ _ => ⟨fn, hf, hn, hb⟩, fun af' e => ?_, fun g e => by (injection e with e; cases e)⟩
    injection e with e; injection e with e; subst e
    exact ⟨fn, hf, h⟩
  · exact RowOK.none P k
theorem RowOK.ofTold {k : FuncId} {fn : Func} {g : List AV → AS → Option (AV × AS)} (hf : P.funcs[k]? = some fn) (hn : (fn.name == "runtime.NumGoroutine") = false) (hb : fn.body.isNone = false)
    (h : ∀ args σ v σ', g args σ = some (v, σ') → ∀ ι w vs, R P ι σ w → VRL ι args vs → CallsIn Fence.wide 0 P k vs.toArray w (Ret P ι σ w σ' v)) : RowOK P k (some (.told g)) :=
  ⟨fun _ _ => ⟨fn, hf, hn, hb⟩, fun af e => by (injection e with e; cases e), fun g' e => by injection e with e; injection e with e; subst e; exact h⟩

def TabG (P : Program) (FT : FuncId → Option FSpec) : Prop := ∀ k, RowOK P k (FT k)
theorem TabG.leaf {k : FuncId} {sp : Option FSpec} (h : RowOK P k sp) : TabG P (fun f => bif Nat.beq f k then sp else none) := fun f => by
  show RowOK P f (bif Nat.beq f k then sp else none)
  cases hb : Nat.beq f k with
  | true => rw [beq_true hb]; exact h
  | false => exact RowOK.none P f
theorem TabG.node {k : Nat} {A B : FuncId → Option FSpec} (ha : TabG P A) (hb : TabG P B) : TabG P (fun f => bif Nat.blt f k then A f else B f) := fun f => by
  show RowOK P f (bif Nat.blt f k then A f else B f)
  cases h : Nat.blt f k with
  | true => exact ha f
  | false => exact hb f
theorem TabG.ok {FT : FuncId → Option FSpec} (hm : P.follows .mixedOrders = true) (h : TabG P FT) : TabOK P FT :=
  ⟨hm, fun f sp e => (h f).opens sp e, fun f af e => (h f).code af e, fun f g e => (h f).told g e⟩
end

/-! ### Literal states -/
noncomputable def eqPairs : List (AV × AV) → List (AV × AV) → Bool
  | [], [] => true
  | (a, b) :: l, (c, d) :: m => bif eqAV 8 a c then bif eqAV 8 b d then eqPairs l m else false else false
  | _, _ => false
noncomputable def eqObj : AObj → AObj → Bool
  | .cells ro ex e l, .cells ro' ex' e' l' => (ro == ro') && (ex == ex') && Nat.beq e e' && eqAL (eqAV 8) l l'
  | .amap l, .amap l' => eqPairs l l'
  | _, _ => false
theorem eqPairs_ok : ∀ {l m : List (AV × AV)}, eqPairs l m = true → l = m
  | [], [], _ => rfl
  | (a, b) :: l, (c, d) :: m, h => by
    unfold eqPairs at h
    cases h1 : eqAV 8 a c with
    | false => rw [h1] at h; cases h
    | true =>
      cases h2 : eqAV 8 b d with
      | false => rw [h1, h2] at h; cases h
      | true => rw [h1, h2] at h; rw [eqAV_ok _ _ _ h1, eqAV_ok _ _ _ h2, eqPairs_ok h]
  | [], _ :: _, h => by cases h
  | _ :: _, [], h => by cases h
theorem eqObj_ok {x y : AObj} (h : eqObj x y = true) : x = y := by
  unfold eqObj at h
  split at h
  · simp only [Bool.and_eq_true] at h
    obtain ⟨⟨⟨h1, h2⟩, h3⟩, h4⟩ := h
    simp at h1 h2
    rw [h1, h2, beq_true h3, eqAL_ok (eqAV_ok 8) h4]
  · rw [eqPairs_ok h]
  · cases h
/-- The first table has nothing that the second has not. -/
noncomputable def leT : Tr AObj → Tr AObj → Bool
  | .nil, _ => true
  | .node v l r, .nil => false
  | .node v l r, .node v' l' r' => (match v with
    | none => true
    | some x => match v' with
      | none => false
      | some x' => eqObj x x') && leT l l' && leT r r'
theorem leT_ok : ∀ {t t' : Tr AObj}, leT t t' = true → ∀ n, t.get n = none ∨ t.get n = t'.get n
  | .nil, _, _, n => .inl rfl
  | .node v l r, .nil, h, n => by cases h
  | .node v l r, .node v' l' r', h, n => by
    unfold leT at h
    simp only [Bool.and_eq_true] at h
    obtain ⟨⟨h1, h2⟩, h3⟩ := h
    cases n with
    | zero =>
      rw [Tr.get_node_zero, Tr.get_node_zero]
      split at h1
      · exact .inl rfl
      · split at h1
        · cases h1
        · exact .inr (by rw [eqObj_ok h1])
    | succ n =>
      rw [Tr.get_node_succ, Tr.get_node_succ]
      split
      · exact leT_ok h2 _
      · exact leT_ok h3 _
/-- Two frames, slot by slot. -/
noncomputable def eqT : Tr AV → Tr AV → Bool
  | .nil, .nil => true
  | .node v l r, .node v' l' r' => (match v with
    | none => (match v' with | none => true | some _ => false)
    | some x => match v' with
      | none => false
      | some x' => eqAV 8 x x') && eqT l l' && eqT r r'
  | _, _ => false
theorem eqT_ok : ∀ {t t' : Tr AV}, eqT t t' = true → t = t'
  | .nil, .nil, _ => rfl
  | .node v l r, .node v' l' r', h => by
    unfold eqT at h
    simp only [Bool.and_eq_true] at h
    obtain ⟨⟨h1, h2⟩, h3⟩ := h
    rw [eqT_ok h2, eqT_ok h3]
    split at h1
    · split at h1
      · rfl
      · cases h1
    · split at h1
      · cases h1
      · rw [eqAV_ok _ _ _ h1]
  | .nil, .node _ _ _, h => by cases h
  | .node _ _ _, .nil, h => by cases h

section
variable {P : Program} {ι : Emb} {σ σ' : AS} {w : World}
theorem R.less (h : R P ι σ w) (hn : σ'.next = σ.next) (hle : ∀ b, σ'.get b = none ∨ σ'.get b = σ.get b) : R P ι σ' w := by
  have lv : ∀ b, σ'.live b → σ.live b ∧ σ'.get b = σ.get b := fun b ⟨o, ho⟩ => by
    rcases hle b with h1 | h1
    · rw [h1] at ho; cases ho
    · exact ⟨⟨o, by rw [← h1]; exact ho⟩, h1⟩
  refine ⟨fun b c hb => by rw [hn]; exact h.lt b c hb, fun b hb => ?_, fun b b' c hl hl' hb hb' => ?_, fun b c o hb hg => ?_⟩
  · rcases hle b with h1 | h1
    · exact h1
    · rw [h1]; exact h.fresh b (by rw [← hn]; exact hb)
  · obtain ⟨l1, e1⟩ := lv b hl
    obtain ⟨l2, e2⟩ := lv b' hl'
    rcases h.inj b b' c l1 l2 hb hb' with h1 | ⟨⟨x, y, z, h2⟩, ⟨x', y', z', h3⟩⟩
    · exact .inl h1
    · exact .inr ⟨⟨x, y, z, by rw [e1]; exact h2⟩, ⟨x', y', z', by rw [e2]; exact h3⟩⟩
  · obtain ⟨l1, e1⟩ := lv b ⟨o, hg⟩
    exact h.obj b c o hb (by rw [← e1]; exact hg)

/-- What is left of the world when nothing of it is known but that it has grown out of another. -/
structure Grown (w w' : World) : Prop where
  size : w.heap.size ≤ w'.heap.size
  old : ∀ c, c < w.heap.size → w'.heap[c]? = w.heap[c]?
  os : w'.os = w.os
  tape : w'.tape = w.tape
  output : w'.output = w.output
theorem Later.grown {ι ι' : Emb} {w w' : World} (h : Later ι σ w ι' σ' w') (hn : ∀ b, σ.get b = none) : Grown w w' :=
  ⟨h.size, fun c hc => h.frame c hc (fun b hb => by (obtain ⟨o, ho⟩ := hb; rw [hn b] at ho; cases ho)), h.os, h.tape, h.output⟩
theorem Grown.keep {w w' : World} (h : Grown w w') (hR : R P ι σ w) : R P ι σ w' ∧ Later ι σ w ι σ w' :=
  ⟨hR.other h.size fun b c _ hb => h.old c (hR.lt b c hb).2, Ext.refl _, fun _ _ h => .inl h, Nat.le_refl _, fun _ _ _ => rfl, fun _ _ h => h, h.size, fun c hc _ => h.old c hc, h.os, h.tape, h.output⟩
theorem Grown.refl (w : World) : Grown w w := ⟨Nat.le_refl _, fun _ _ => rfl, rfl, rfl, rfl⟩
theorem Grown.trans {w w' w'' : World} (h : Grown w w') (k : Grown w' w'') : Grown w w'' :=
  ⟨Nat.le_trans h.size k.size, fun c hc => (k.old c (Nat.lt_of_lt_of_le hc h.size)).trans (h.old c hc), k.os.trans h.os, k.tape.trans h.tape, k.output.trans h.output⟩
end
end Go.Av
