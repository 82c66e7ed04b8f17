/-
  Av: what each operation of the small machine does, the model's does.
-/
import Derived.Test.YtnekfkhjokgdmaaGreatAvMem
import Derived.Laws.Tables
set_option linter.unusedVariables false
namespace Go.Av

section
variable {P : Program} {ι : Emb} {σ σ' : AS} {w : World} {ts : TM} {a : Act} {v : AV}

/-- What an operation comes to. -/
def Res (P : Program) (ι : Emb) (σ : AS) (w : World) (σ' : AS) (v : AV) (r : Result Next) : Prop :=
  ∃ ι' w' v', Later ι σ w ι' σ' w' ∧ R P ι' σ' w' ∧ VR ι' v v' ∧ (r = .ok (.value v') w' ∨ (r = .ok .skip w' ∧ v' = undef))
theorem Res.pure (hR : R P ι σ w) {v' : Value} {r : Result Next} (hv : VR ι v v') (hr : r = .ok (.value v') w) : Res P ι σ w σ v r :=
  ⟨ι, w, v', .refl _ _ _, hR, hv, .inl hr⟩

abbrev Slots (ι : Emb) (ts : TM) (a : Act) : Prop := ∀ t, VR ι (ts.at t) (a.tmps.getD t undef)

theorem OR.full {ro : Bool} {e : TypeId} {l : List AV} {cs : Array Value} {b : Nat} (h : VRL ι l cs.toList) (h1 : ∀ v ∈ l, oneA v = true) : OR P ι b (.cells ro true e l) (.cells cs e (0, 0)) := by
  have hl := h.len
  refine ⟨cs, (0, 0), rfl, fun _ => rfl, by simpa using Nat.le_of_eq hl, fun _ => by simpa using hl.symm, ?_, h1, fun h => (by cases h)⟩
  rw [List.take_of_length_le (by omega)]
  exact h

theorem zeroOf_ok {t : TypeId} {z : List AV} (h : zeroOf P t = some z) : ∃ i zv, P.info? t = some i ∧ i.zero = some zv ∧ z.length = i.size ∧ (∀ ι, VRL ι z zv.cells.toList) ∧ ∀ x ∈ z, oneA x = true := by
  unfold zeroOf at h
  split at h
  · rename_i i hi
    split at h
    · rename_i zv hz
      split at h
      · rename_i l hl
        split at h
        · rename_i hs
          injection h with h
          subst h
          exact ⟨i, zv, hi, hz, hs, fun ι => (ofCells_ok hl ι).1, (ofCells_ok hl ⟨fun _ => none, fun _ => 0⟩).2⟩
        · cases h
      · cases h
    · cases h
  · cases h
theorem sizeAt_ok {t : TypeId} {n : Nat} (h : sizeAt P t = some n) : ∃ i, P.info? t = some i ∧ i.size = n := by
  unfold sizeAt at h
  cases hi : P.info? t with
  | none => rw [hi] at h; cases h
  | some i => rw [hi] at h; injection h with h; exact ⟨i, rfl, h⟩

theorem run_sizeOf {t : TypeId} {i : TypeInfo} (h : P.info? t = some i) (w : World) : (sizeOf t).run P w = .ok i.size w := by simp [sizeOf, typeInfo, h]
theorem run_typeInfo {t : TypeId} {i : TypeInfo} (h : P.info? t = some i) (w : World) : (typeInfo t).run P w = .ok i w := by simp [typeInfo, h]
theorem run_zeroValue {t : TypeId} {i : TypeInfo} {z : Value} (h : P.info? t = some i) (hz : i.zero = some z) (w : World) : (zeroValue t).run P w = .ok z w := by simp [zeroValue, typeInfo, h, hz]
theorem run_isAgg {t : TypeId} {g : Bool} (h : aggAt P t = some g) (w : World) : (isAgg t).run P w = .ok g w := by
  unfold aggAt at h
  split at h
  · rename_i hu; injection h with h; subst h; simp [isAgg, run_underlying hu]
  · rename_i hu; injection h with h; subst h; simp [isAgg, run_underlying hu]
  · rename_i d h1 h2 hu
    injection h with h
    subst h
    cases d <;> first | (simp [isAgg, run_underlying hu]; done) | exact absurd rfl (h1 _) | exact absurd rfl (h2 _ _)
  · cases h

theorem ok_move {o : Oper} {x : Operand} {y : Opd} (hR : R P ι σ w) (ht : Slots ι ts a) (ho : o.op = .move x ∨ o.op = .assign x) (hc : cOpd x = some y) : Res P ι σ w σ (evA ts y) ((execOp a.eval o).run P w) :=
  .pure hR (cOpd_ok hc ht) (by rcases ho with ho | ho <;> (unfold execOp; rw [ho]; rfl))
theorem ok_pick {o : Oper} {c x y : Operand} {c' x' y' : Opd} {t : Bool} (hR : R P ι σ w) (ht : Slots ι ts a) (ho : o.op = .pick c x y) (hc : cOpd c = some c') (hx : cOpd x = some x') (hy : cOpd y = some y')
    (ht' : evA ts c' = .bool t) : Res P ι σ w σ (bif t then evA ts x' else evA ts y') ((execOp a.eval o).run P w) := by
  have h1 := cOpd_ok hc ht
  rw [ht'] at h1
  have h1' : a.eval c = .bool t := by generalize a.eval c = u at h1; cases h1; rfl
  cases t with
  | true => exact .pure hR (cOpd_ok hx ht) (by unfold execOp; rw [ho]; simp [h1', asBool])
  | false => exact .pure hR (cOpd_ok hy ht) (by unfold execOp; rw [ho]; simp [h1', asBool])

theorem ok_new {r : Result Next} {o : AObj} {o' : Obj} {v' : Value} (k : Nat) (hR : R P ι σ w) (hO : OR P (at_ ι σ.next w.heap.size k) σ.next o o') (hv : VR (at_ ι σ.next w.heap.size k) v v') (hr : r = .ok (.value v') (w.alloc o')) : Res P ι σ w (σ.alloc o) v r := by
  obtain ⟨h1, h2⟩ := hR.alloc k hO
  exact ⟨_, _, v', h2, h1, hv, .inl hr⟩
/-- A new block is made, of the number 'b'. -/
def NewOK (P : Program) (ι : Emb) (w : World) (b : Nat) (v : AV) (o : AObj) (r : Result Next) : Prop :=
  ∃ o' v', (∀ ι', Ext ι ι' → ι' b = some w.heap.size → OR P ι' b o o' ∧ VR ι' v v') ∧ r = .ok (.value v') (w.alloc o')
theorem NewOK.res {r : Result Next} {o : AObj} (h : NewOK P ι w σ.next v o r) (hR : R P ι σ w) : Res P ι σ w (σ.alloc o) v r := by
  obtain ⟨o', v', h1, h2⟩ := h
  obtain ⟨h3, h4⟩ := h1 (at_ ι σ.next w.heap.size 0) (hR.ext_at _ _) (by simp [at_blk])
  exact ok_new 0 hR h3 h4 h2
theorem at_self (ι : Emb) (b c k : Nat) : at_ ι b c k b = some c := by simp [at_blk]

theorem new_alloc {o : Oper} {e : TypeId} {z : List AV} (b : Nat) (ho : o.op = .alloc e) (hz : zeroOf P e = some z) : NewOK P ι w b (.ptr b 0) (.cells false true e z) ((execOp a.eval o).run P w) := by
  obtain ⟨i, zv, hi, hzv, hl, hv, h1⟩ := zeroOf_ok hz
  refine ⟨_, _, fun ι' hx hb => ⟨OR.full (cs := zv.cells) (hv _) h1, .ptr hb⟩, ?_⟩
  unfold execOp; rw [ho]
  simp [Instr.alloc, run_zeroValue hi hzv, newVar, newRow]
theorem ok_alloc {o : Oper} {e : TypeId} {z : List AV} (hR : R P ι σ w) (ho : o.op = .alloc e) (hz : zeroOf P e = some z) : Res P ι σ w (σ.alloc (.cells false true e z)) (.ptr σ.next 0) ((execOp a.eval o).run P w) := (new_alloc _ ho hz).res hR
theorem new_box {o : Oper} {e : TypeId} {x : Operand} {y : Opd} (b : Nat) (ht : Slots ι ts a) (ho : o.op = .box e x) (hc : cOpd x = some y) (hy : ∀ l, evA ts y ≠ .tup l) :
    NewOK P ι w b (.ptr b 0) (.cells false true e (cellsOf (evA ts y))) ((execOp a.eval o).run P w) := by
  have h1 := cOpd_ok hc ht
  refine ⟨_, _, fun ι' hx hb => ⟨OR.full (cs := (a.eval x).cells) (h1.cells.ext hx) (h1.cells_one hy), .ptr hb⟩, ?_⟩
  unfold execOp; rw [ho]
  simp [Instr.box, newVar, newRow]
theorem ok_box {o : Oper} {e : TypeId} {x : Operand} {y : Opd} (hR : R P ι σ w) (ht : Slots ι ts a) (ho : o.op = .box e x) (hc : cOpd x = some y) (hy : ∀ l, evA ts y ≠ .tup l) :
    Res P ι σ w (σ.alloc (.cells false true e (cellsOf (evA ts y)))) (.ptr σ.next 0) ((execOp a.eval o).run P w) := (new_box _ ht ho hc hy).res hR

/-! ### Parts -/
theorem fold_set (vs : List Value) : ∀ (cells : Array Value) (off k : Nat), off + k + vs.length ≤ cells.size →
    ((vs.zipIdx k).foldl (fun cs (c, j) => cs.setIfInBounds (off + j) c) cells).toList = cells.toList.take (off + k) ++ vs ++ cells.toList.drop (off + k + vs.length) := by
  induction vs with
  | nil => intro cells off k h; simp
  | cons v vs ih =>
    intro cells off k h
    simp only [List.zipIdx_cons, List.foldl_cons]
    rw [ih _ _ _ (by simp at h ⊢; omega)]
    have := list_seg_step cells.toList (off + k) v vs (by simp at h ⊢; omega)
    simpa [Nat.add_assoc, Array.toList_setIfInBounds] using this
theorem fill_ok {place : Nat → Option (Nat × Nat)} (ht : Slots ι ts a) : ∀ (parts : List (Nat × Operand)) (ps : List (Nat × Nat × Opd)) (l r : List AV) (cs : Array Value),
    cParts place parts = some ps → fillA ts ps l = some r → VRL ι l cs.toList → (∀ x ∈ l, oneA x = true) →
    ∃ cs', Instr.fill place cs (parts.map fun (i, x) => (i, a.eval x)) = some cs' ∧ VRL ι r cs'.toList ∧ r.length = l.length ∧ ∀ x ∈ r, oneA x = true
  | [], ps, l, r, cs, hp, hf, hl, h1 => by
    injection hp with hp; subst hp
    injection hf with hf; subst hf
    exact ⟨cs, rfl, hl, rfl, h1⟩
  | (i, x) :: parts, ps, l, r, cs, hp, hf, hl, h1 => by
    unfold cParts at hp
    split at hp
    · rename_i off size y ps' hpl hy hp'
      injection hp with hp
      subst hp
      have hv := cOpd_ok (a := a) hy ht
      unfold fillA at hf
      cases hb : Nat.beq (len (cellsOf (evA ts y))) size && !(isTup (evA ts y)) with
      | false => rw [hb] at hf; cases hf
      | true =>
        rw [hb] at hf
        simp only [cond_true] at hf
        have hb' := Bool.and_eq_true_iff.1 hb
        have hsz : (cellsOf (evA ts y)).length = size := by have := Nat.eq_of_beq_eq_true hb'.1; rwa [len_eq] at this
        have hnt : ∀ l, evA ts y ≠ .tup l := fun l e => by rw [e] at hb'; simp [isTup] at hb'
        split at hf
        · rename_i l' hl'
          obtain ⟨h2, h3⟩ := putRange_eq _ _ _ _ hl'
          have hvl := hv.cells
          have hvlen := hvl.len
          have hlen := hl.len
          have hfold := fold_set (a.eval x).cells.toList cs off 0 (by simp at hlen hvlen ⊢; omega)
          have hrel : VRL ι l' ((((a.eval x).cells.zipIdx.foldl (fun cs (c, j) => cs.setIfInBounds (off + j) c) cs)).toList) := by
            have e : ((a.eval x).cells.zipIdx.foldl (fun cs (c, j) => cs.setIfInBounds (off + j) c) cs) = (((a.eval x).cells.toList.zipIdx 0).foldl (fun cs (c, j) => cs.setIfInBounds (off + j) c) cs) := by
              rw [← Array.foldl_toList]; simp
            rw [e, hfold, h3, Nat.add_zero, ← hvlen]
            exact ((hl.take off).append hvl).append (hl.drop _)
          obtain ⟨cs', h4, h5, h6, h7⟩ := fill_ok ht parts ps' l' r _ hp' hf hrel (by
            intro z hz
            rw [h3] at hz
            simp only [List.mem_append] at hz
            rcases hz with (hz | hz) | hz
            · exact h1 z (List.mem_of_mem_take hz)
            · exact hv.cells_one hnt z hz
            · exact h1 z (List.mem_of_mem_drop hz))
          refine ⟨cs', ?_, h5, ?_, h7⟩
          · simp only [List.map_cons, Instr.fill, hpl]
            rw [if_neg]
            · exact h4
            · simp at hvlen hlen ⊢; omega
          · rw [h6, h3]; simp; omega
        · cases hf
    · cases hp
end
end Go.Av
