/-
  Av: the operations, further: addresses, fields, lengths, maps, append, copy, clear.
-/
import Derived.Test.YtnekfkhjokgdmaaGreatAvOps5
set_option linter.unusedVariables false
set_option linter.unusedSimpArgs false
namespace Go.Av
section
variable {P : Program} {ι : Emb} {σ σ' : AS} {w : World} {ts : TM} {a : Act} {v : AV}

theorem ok_faddr {o : Oper} {s : TypeId} {f n : Nat} {fs : Array Field} {g : Field} {x : Operand} {y : Opd} {b off : Nat} (hR : R P ι σ w) (ht : Slots ι ts a) (ho : o.op = .fieldAddr s x f) (hu : P.underlying s = some (.struct fs)) (hx : cOpd x = some y) (hf : fs[f]? = some g) (hs : sizeAt P g.type = some n) (hn : n ≠ 0)
    (he : evA ts y = .ptr b off) : Res P ι σ w σ (.ptr b (Nat.add off g.offset)) ((execOp a.eval o).run P w) := by
  have h1 := cOpd_ok hx ht
  rw [he] at h1
  obtain ⟨c, hc, hv⟩ := h1.ptr_inv
  obtain ⟨i, hi, hsz⟩ := sizeAt_ok hs
  refine .pure hR (.ptr hc) ?_
  unfold execOp; rw [ho]
  simp only [Instr.fieldAt, Sem.run_bind, run_underlying hu, Result.andThen_ok, hf, hv, Instr.sureAddr, Sem.run_pure, fieldPlace, run_sizeOf hi, hsz]
  rw [if_neg hn]
  simp [add_off]
theorem ok_field {o : Oper} {s : TypeId} {f n : Nat} {fs : Array Field} {g : Field} {ag : Bool} {x : Operand} {y : Opd} {l r : List AV} (hR : R P ι σ w) (ht : Slots ι ts a) (ho : o.op = .field s x f) (hu : P.underlying s = some (.struct fs)) (hx : cOpd x = some y) (hf : fs[f]? = some g) (hs : sizeAt P g.type = some n) (hg : aggAt P g.type = some ag)
    (he : evA ts y = .agg l) (hr : getRange l g.offset (if ag then n else 1) = some r) (hw : wrapUp ag r = some v) : Res P ι σ w σ v ((execOp a.eval o).run P w) := by
  have h1 := cOpd_ok hx ht
  rw [he] at h1
  obtain ⟨cs, hv, hl, hone⟩ := h1.agg_inv
  obtain ⟨i, hi, hsz⟩ := sizeAt_ok hs
  have hlen := hl.len
  have h2 := range_rel (cs := cs) (l := l) (by rw [List.take_of_length_le (by omega)]; exact hl) hr
  have hone' : ∀ x ∈ r, oneA x = true := fun x hx => by
    rw [(getRange_eq hr).1] at hx
    exact hone x (List.mem_of_mem_drop (List.mem_of_mem_take hx))
  rcases wrapUp_rel hw h2.1 hone' with ⟨rfl, hvr⟩ | ⟨rfl, u, huu, hvr⟩
  · refine .pure hR hvr ?_
    unfold execOp; rw [ho]
    simp only [Instr.field, Sem.run_bind, run_underlying hu, Result.andThen_ok, hf, hv, asAgg, Sem.run_pure, part, run_isAgg hg, if_true, run_sizeOf hi, hsz]
    congr 3
    apply Array.ext'
    simp [List.extract_eq_take_drop]
  · refine .pure hR hvr ?_
    have hc : cs[g.offset]? = some u := by
      have e1 : ((cs.drop g.offset).take 1)[0]? = some u := by simp at huu; rw [huu]; rfl
      rw [List.getElem?_take, if_pos (by omega), List.getElem?_drop] at e1
      simpa using e1
    unfold execOp; rw [ho]
    simp only [Instr.field, Sem.run_bind, run_underlying hu, Result.andThen_ok, hf, hv, asAgg, Sem.run_pure, part, run_isAgg hg, Bool.false_eq_true, if_false, List.getElem?_toArray, hc]
theorem ok_idxA {o : Oper} {t e : TypeId} {k sz : Nat} {x i : Operand} {x' i' : Opd} {b off j : Nat} (hR : R P ι σ w) (ht : Slots ι ts a) (ho : o.op = .indexAddr t x i) (hu : P.underlying t = some (.array k e)) (hs : sizeAt P e = some sz) (hx : cOpd x = some x') (hi : cOpd i = some i')
    (he : evA ts x' = .ptr b off) (hj : asNat (evA ts i') = some j) (hlt : j < k) : Res P ι σ w σ (.ptr b (Nat.add off (Nat.mul j sz))) ((execOp a.eval o).run P w) := by
  have h1 := cOpd_ok hx ht
  rw [he] at h1
  obtain ⟨c, hc, hv⟩ := h1.ptr_inv
  obtain ⟨kd, hk⟩ := asNat_ok hj (cOpd_ok hi ht)
  obtain ⟨ti, hti, hsz⟩ := sizeAt_ok hs
  refine .pure hR (.ptr hc) ?_
  unfold execOp; rw [ho]
  have hb : (0 : Int) ≤ j ∧ (j : Int) < k := by omega
  simp [Instr.indexAt, hk, asIntOf, run_underlying hu, hv, Instr.sureAddr, hb, run_sizeOf hti, hsz, add_off, Nat.mul_eq, Nat.add_eq]
  intro hge
  omega
theorem ok_idxS {o : Oper} {t e : TypeId} {sz : Nat} {x i : Operand} {x' i' : Opd} {b off n c j : Nat} {ex : Bool} (hR : R P ι σ w) (ht : Slots ι ts a) (ho : o.op = .indexAddr t x i) (hu : P.underlying t = some (.slice e)) (hs : sizeAt P e = some sz) (hx : cOpd x = some x') (hi : cOpd i = some i')
    (he : evA ts x' = .sl b off n c ex) (hj : asNat (evA ts i') = some j) (hlt : j < n) : Res P ι σ w σ (.ptr b (Nat.add off (Nat.mul j sz))) ((execOp a.eval o).run P w) := by
  have h1 := cOpd_ok hx ht
  rw [he] at h1
  obtain ⟨g, c', hg, hv, _⟩ := h1.sl_inv
  obtain ⟨kd, hk⟩ := asNat_ok hj (cOpd_ok hi ht)
  obtain ⟨ti, hti, hsz⟩ := sizeAt_ok hs
  refine .pure hR (.ptr hg) ?_
  unfold execOp; rw [ho]
  have hb : (0 : Int) ≤ j ∧ (j : Int) < n := by omega
  simp [Instr.indexAt, hk, asIntOf, run_underlying hu, hv, hb, run_sizeOf hti, hsz, add_off, Nat.mul_eq, Nat.add_eq]
  intro hge
  omega
theorem ok_idxStr {o : Oper} {t : TypeId} {x i : Operand} {x' i' : Opd} {s : List UInt8} {j : Nat} {b : UInt8} (hR : R P ι σ w) (ht : Slots ι ts a) (ho : o.op = .index t x i) (hu : P.underlying t = some .string) (hx : cOpd x = some x') (hi : cOpd i = some i')
    (he : evA ts x' = .str s) (hj : asNat (evA ts i') = some j) (hb : s[j]? = some b) : Res P ι σ w σ (.int .u8 (.ofNat b.toNat)) ((execOp a.eval o).run P w) := by
  have h1 := cOpd_ok hx ht
  rw [he] at h1
  obtain ⟨kd, hk⟩ := asNat_ok hj (cOpd_ok hi ht)
  refine .pure hR (.int _ _) ?_
  unfold execOp; rw [ho]
  have hj0 : (0 : Int) ≤ (j : Int) := by omega
  have hg : (ByteArray.mk s.toArray)[j]? = some b := by
    have hlt := (List.getElem?_eq_some_iff.1 hb).1
    have hsz : (ByteArray.mk s.toArray).size = s.length := by show s.toArray.size = _; simp
    rw [getElem?_pos _ _ (by rw [hsz]; exact hlt)]
    have := (List.getElem?_eq_some_iff.1 hb).2
    rw [← this]; rfl
  simp only [Instr.index, Sem.run_bind, hk, asIntOf, Sem.run_pure, Result.andThen_ok, run_underlying hu, h1.str_inv, if_pos hj0, Int.toNat_natCast, hg]
  simp
theorem ok_idxAgg {o : Oper} {t e : TypeId} {k sz : Nat} {ag : Bool} {x i : Operand} {x' i' : Opd} {l r : List AV} {j : Nat} (hR : R P ι σ w) (ht : Slots ι ts a) (ho : o.op = .index t x i) (hu : P.underlying t = some (.array k e)) (hs : sizeAt P e = some sz) (hg : aggAt P e = some ag) (hn : ag = false → sz = 1) (hx : cOpd x = some x') (hi : cOpd i = some i')
    (he : evA ts x' = .agg l) (hj : asNat (evA ts i') = some j) (hlt : j < k) (hr : getRange l (j * sz) sz = some r) (hw : wrapUp ag r = some v) : Res P ι σ w σ v ((execOp a.eval o).run P w) := by
  have h1 := cOpd_ok hx ht
  rw [he] at h1
  obtain ⟨cs, hv, hl, hone⟩ := h1.agg_inv
  obtain ⟨kd, hk⟩ := asNat_ok hj (cOpd_ok hi ht)
  obtain ⟨ti, hti, hsz⟩ := sizeAt_ok hs
  have hb : (0 : Int) ≤ j ∧ (j : Int) < k := by omega
  have hlen := hl.len
  have h2 := range_rel (cs := cs) (l := l) (by rw [List.take_of_length_le (by omega)]; exact hl) hr
  have hone' : ∀ x ∈ r, oneA x = true := fun x hx => by
    rw [(getRange_eq hr).1] at hx
    exact hone x (List.mem_of_mem_drop (List.mem_of_mem_take hx))
  rcases wrapUp_rel hw h2.1 hone' with ⟨rfl, hvr⟩ | ⟨rfl, u, huu, hvr⟩
  · refine .pure hR hvr ?_
    unfold execOp; rw [ho]
    simp only [Instr.index, Sem.run_bind, hk, asIntOf, Sem.run_pure, Result.andThen_ok, run_underlying hu, hv, if_pos hb, Int.toNat_natCast, run_sizeOf hti, hsz, part, run_isAgg hg, if_true]
    congr 3
    apply Array.ext'
    simp [List.extract_eq_take_drop]
  · obtain rfl := hn rfl
    refine .pure hR hvr ?_
    have hc : cs[j * 1]? = some u := by
      rw [Nat.mul_one] at huu ⊢
      have e1 : ((cs.drop j).take 1)[0]? = some u := by rw [huu]; rfl
      rw [List.getElem?_take, if_pos (by omega), List.getElem?_drop] at e1
      simpa using e1
    unfold execOp; rw [ho]
    simp only [Instr.index, Sem.run_bind, hk, asIntOf, Sem.run_pure, Result.andThen_ok, run_underlying hu, hv, if_pos hb, Int.toNat_natCast, run_sizeOf hti, hsz, part, run_isAgg hg, Bool.false_eq_true, if_false, List.getElem?_toArray, hc]
theorem ok_ext {o : Oper} {x : Operand} {y : Opd} {l : List AV} {i : Nat} (hR : R P ι σ w) (ht : Slots ι ts a) (ho : o.op = .extract x i) (hx : cOpd x = some y) (he : evA ts y = .tup l) (hi : l[i]? = some v) : Res P ι σ w σ v ((execOp a.eval o).run P w) := by
  have h1 := cOpd_ok hx ht
  rw [he] at h1
  have : ∃ cs, a.eval x = .tuple cs.toArray ∧ VRL ι l cs := by
    generalize a.eval x = u at h1
    cases h1 with | tup h => exact ⟨_, rfl, h⟩
  obtain ⟨cs, hv, hl⟩ := this
  obtain ⟨u, hu, hvr⟩ := hl.get hi
  refine .pure hR hvr ?_
  unfold execOp; rw [ho]
  simp [Instr.extract, hv, hu]

/-! ### Lengths -/
theorem lenV_ok {x : AV} {u : Value} {n : Nat} (h : lenV x = some n) (hx : VR ι x u) (w : World) : (Builtin.lenOf u).run P w = .ok n w := by
  unfold lenV at h
  split at h <;> first | cases h | (injection h with h; subst h)
  · cases hx; simp [Builtin.lenOf]
  · cases hx; simp [Builtin.lenOf]
  · obtain ⟨g, c', _, rfl, _⟩ := hx.sl_inv; simp [Builtin.lenOf]
  · rw [hx.str_inv]; simp [Builtin.lenOf]; rfl
theorem run_builtin {o : Oper} {b : Builtin} {args : Array Operand} {ts' : Array TypeId} (ho : o.op = .call { callee := .builtin b, args, argTypes := ts' }) :
    (execOp a.eval o).run P w = (Go.builtin b ts' o.type (args.map fun | .const _ => true | _ => false) (args.map a.eval)).run P w := by
  unfold execOp; rw [ho]
  simp [resolve, invoke]
  rfl
theorem at0 {ts' : Array TypeId} {d : TypeDesc} (h : (ts'[0]?).bind P.underlying = some d) : ∃ t, ts'[0]? = some t ∧ P.underlying t = some d := by
  cases h0 : ts'[0]? with
  | none => rw [h0] at h; cases h
  | some t => rw [h0] at h; exact ⟨t, rfl, h⟩
theorem ok_lenStr {o : Oper} {x : Operand} {y : Opd} {ts' : Array TypeId} {s : List UInt8} (hR : R P ι σ w) (ht : Slots ι ts a) (ho : o.op = .call { callee := .builtin .len, args := #[x], argTypes := ts' }) (hx : cOpd x = some y) (hu : (ts'[0]?).bind P.underlying = some .string)
    (he : evA ts y = .str s) : Res P ι σ w σ (.int .i64 (.ofNat s.length)) ((execOp a.eval o).run P w) := by
  have h1 := cOpd_ok hx ht
  rw [he] at h1
  obtain ⟨t, ht0, hu⟩ := at0 hu
  refine .pure hR (.int _ _) ?_
  rw [run_builtin ho]
  simp [Go.builtin, Builtin.len_, ht0, h1.str_inv, run_underlying hu, goInt]
  rfl
theorem ok_lenS {o : Oper} {x : Operand} {y : Opd} {ts' : Array TypeId} {e : TypeId} {n : Nat} (hR : R P ι σ w) (ht : Slots ι ts a) (ho : o.op = .call { callee := .builtin .len, args := #[x], argTypes := ts' }) (hx : cOpd x = some y) (hu : (ts'[0]?).bind P.underlying = some (.slice e))
    (he : (evA ts y = .nilsl ∧ n = 0) ∨ (evA ts y = .empsl ∧ n = 0) ∨ ∃ b off c ex, evA ts y = .sl b off n c ex) : Res P ι σ w σ (.int .i64 (.ofNat n)) ((execOp a.eval o).run P w) := by
  have h1 := cOpd_ok hx ht
  have hv : ∃ p c, a.eval x = .slice p n c := by
    generalize a.eval x = u at h1
    rcases he with ⟨he, rfl⟩ | ⟨he, rfl⟩ | ⟨b, off, c, ex, he⟩ <;> rw [he] at h1 <;> cases h1 <;> exact ⟨_, _, rfl⟩
  obtain ⟨p, c, hv⟩ := hv
  obtain ⟨t, ht0, hu⟩ := at0 hu
  refine .pure hR (.int _ _) ?_
  rw [run_builtin ho]
  simp [Go.builtin, Builtin.len_, ht0, hv, run_underlying hu, goInt]
theorem ok_lenC {o : Oper} {x : Operand} {ts' : Array TypeId} {e : TypeId} {n : Nat} (hR : R P ι σ w) (ho : o.op = .call { callee := .builtin .len, args := #[x], argTypes := ts' }) (hu : (ts'[0]?).bind P.underlying = some (.array n e)) :
    Res P ι σ w σ (.int .i64 (.ofNat n)) ((execOp a.eval o).run P w) := by
  obtain ⟨t, ht0, hu⟩ := at0 hu
  refine .pure hR (.int _ _) ?_
  rw [run_builtin ho]
  simp [Go.builtin, Builtin.len_, ht0, run_underlying hu, goInt]
theorem R.amap (hR : R P ι σ w) {b c : Nat} {l : List (AV × AV)} (hb : ι b = some c) (hg : σ.get b = some (.amap l)) : ∃ es clock, w.heap[c]? = some (.map es clock) ∧ MRL ι l es.toList ∧ Born es.toList clock := by
  obtain ⟨o', h1, es, clock, h2, h3⟩ := hR.obj b c _ hb hg
  subst h2
  exact ⟨es, clock, h1, h3⟩
theorem VR.map_inv {b : Nat} {u : Value} (h : VR ι (.map b) u) : ∃ c, ι b = some c ∧ u = .map (some c) := by
  cases h with | map h => exact ⟨_, h, rfl⟩
theorem run_getMap {c : Nat} {es : Array MapEntry} {clock : Nat} (h : w.heap[c]? = some (.map es clock)) : (getObj c).run P w = .ok (.map es clock) w := by
  simp [getObj, Sem.run, h]
theorem mapAt_ok {x : AV} {u : Value} {l : List (AV × AV)} (h : mapAt σ x = some l) (hx : VR ι x u) (hR : R P ι σ w) :
    (x = .nilmap ∧ u = .map none ∧ l = []) ∨ ∃ b c es clock, x = .map b ∧ ι b = some c ∧ u = .map (some c) ∧ w.heap[c]? = some (.map es clock) ∧ MRL ι l es.toList ∧ σ.get b = some (.amap l) := by
  unfold mapAt at h
  split at h
  · injection h with h; subst h
    cases hx
    exact .inl ⟨rfl, rfl, rfl⟩
  · rename_i b
    split at h
    · rename_i l' hg
      injection h with h; subst h
      obtain ⟨c, hc, hu⟩ := hx.map_inv
      obtain ⟨es, clock, h1, h2, _⟩ := hR.amap hc hg
      exact .inr ⟨b, c, es, clock, rfl, hc, hu, h1, h2, hg⟩
    · cases h
  · cases h
theorem ok_lenM {o : Oper} {x : Operand} {y : Opd} {ts' : Array TypeId} {k e : TypeId} {l : List (AV × AV)} (hR : R P ι σ w) (ht : Slots ι ts a) (ho : o.op = .call { callee := .builtin .len, args := #[x], argTypes := ts' }) (hx : cOpd x = some y) (hu : (ts'[0]?).bind P.underlying = some (.map k e))
    (he : mapAt σ (evA ts y) = some l) : Res P ι σ w σ (.int .i64 (.ofNat l.length)) ((execOp a.eval o).run P w) := by
  have h1 := cOpd_ok hx ht
  obtain ⟨t, ht0, hu⟩ := at0 hu
  refine .pure hR (.int _ _) ?_
  rw [run_builtin ho]
  rcases mapAt_ok he h1 hR with ⟨_, hv, rfl⟩ | ⟨b, c, es, clock, _, _, hv, hc, hm, _⟩
  · simp [Go.builtin, Builtin.len_, ht0, hv, run_underlying hu, goInt]
  · have := hm.len
    simp [Go.builtin, Builtin.len_, ht0, hv, run_underlying hu, goInt, run_getMap hc, this]
theorem ok_mn {o : Oper} {x y : Operand} {x' y' : Opd} {ts' : Array TypeId} {k k' : IntKind} {m n : Int} (hR : R P ι σ w) (ht : Slots ι ts a) (ho : o.op = .call { callee := .builtin .min, args := #[x, y], argTypes := ts' }) (hx : cOpd x = some x') (hy : cOpd y = some y')
    (h1 : evA ts x' = .int k m) (h2 : evA ts y' = .int k' n) : Res P ι σ w σ (.int k (bif ltB n m then n else m)) ((execOp a.eval o).run P w) := by
  have e1 := cOpd_ok hx ht
  have e2 := cOpd_ok hy ht
  rw [h1] at e1; rw [h2] at e2
  refine .pure hR (.int _ _) ?_
  rw [run_builtin ho, ltB_eq]
  by_cases h : n < m <;> simp [Go.builtin, Builtin.min_, Builtin.min2, e1.int_inv, e2.int_inv, h]
theorem ok_mx {o : Oper} {x y : Operand} {x' y' : Opd} {ts' : Array TypeId} {k k' : IntKind} {m n : Int} (hR : R P ι σ w) (ht : Slots ι ts a) (ho : o.op = .call { callee := .builtin .max, args := #[x, y], argTypes := ts' }) (hx : cOpd x = some x') (hy : cOpd y = some y')
    (h1 : evA ts x' = .int k m) (h2 : evA ts y' = .int k' n) : Res P ι σ w σ (.int k (bif ltB m n then n else m)) ((execOp a.eval o).run P w) := by
  have e1 := cOpd_ok hx ht
  have e2 := cOpd_ok hy ht
  rw [h1] at e1; rw [h2] at e2
  refine .pure hR (.int _ _) ?_
  rw [run_builtin ho, ltB_eq]
  by_cases h : m < n <;> simp [Go.builtin, Builtin.max_, Builtin.max2, e1.int_inv, e2.int_inv, h]

/-! ### Maps -/
theorem keyShape {k : EqK} {x : AV} (h : keyOk k x = true) : (∃ c, k = .sc c) ∨ (∃ ks l, k = .flat ks ∧ x = .agg l ∧ l.length = ks.length) := by
  unfold keyOk at h
  split at h
  · exact .inl ⟨_, rfl⟩
  · refine .inr ⟨_, _, rfl, rfl, ?_⟩
    have := Nat.eq_of_beq_eq_true h
    rwa [len_eq] at this
  · cases h
theorem tup2 {x : AV} {u : Value} {b : Bool} (h : VR ι x u) : VR ι (.tup [x, .bool b]) (.tuple #[u, .bool b]) := .tup (.cons h (.cons (.bool b) .nil))
theorem ok_lookup {o : Oper} {t kt e : TypeId} {m x : Operand} {m' x' : Opd} {q : EqK} {i : TypeInfo} {zv : Value} {z : AV} {ok : Bool} {l : List (AV × AV)} {r : Option AV} (hR : R P ι σ w) (ht : Slots ι ts a) (ho : o.op = .lookup t m x ok) (hu : P.underlying t = some (.map kt e)) (hm : cOpd m = some m') (hx : cOpd x = some x') (hk : keyKind P kt = some q)
    (hi : P.info? e = some i) (hz : i.zero = some zv) (hzv : ofV zv = some z) (hok : keyOk q (evA ts x') = true) (hl : mapAt σ (evA ts m') = some l) (hf : mapFind q (evA ts x') l = some r) :
    Res P ι σ w σ (match r with | none => (bif ok then .tup [z, .bool false] else z) | some y => (bif ok then .tup [y, .bool true] else y)) ((execOp a.eval o).run P w) := by
  have h1 := cOpd_ok hm ht
  have h2 := cOpd_ok hx ht
  have hzr := ofV_ok hzv ι
  obtain ⟨j, hj, hjr⟩ := mapFind_idx hf
  have hck := fun em => keyCk_ok (b := true) (y := .nilsl) hk h2 (keyShape hok) em w
  rcases mapAt_ok hl h1 hR with ⟨_, hv, rfl⟩ | ⟨b, c, es, clock, _, _, hv, hc, hmr, _⟩
  · injection hj with hj; subst hj
    simp only at hjr
    subst hjr
    have hfk : (Instr.findKey kt (a.eval x) []).run P w = .ok none w := findKey_ok (l := []) (es := []) hk h2 w trivial rfl
    cases ok with
    | true => refine .pure hR (tup2 hzr) ?_; unfold execOp; rw [ho]; simp [Instr.lookup, run_underlying hu, hv, hck, hfk, run_zeroValue hi hz]
    | false => refine .pure hR hzr ?_; unfold execOp; rw [ho]; simp [Instr.lookup, run_underlying hu, hv, hck, hfk, run_zeroValue hi hz]
  · have hfk := findKey_ok hk h2 w hmr hj
    cases j with
    | none =>
      simp only at hjr
      subst hjr
      simp only [foundAt] at hfk
      cases ok with
      | true => refine .pure hR (tup2 hzr) ?_; unfold execOp; rw [ho]; simp [Instr.lookup, run_underlying hu, hv, run_getMap hc, hck, hfk, run_zeroValue hi hz]
      | false => refine .pure hR hzr ?_; unfold execOp; rw [ho]; simp [Instr.lookup, run_underlying hu, hv, run_getMap hc, hck, hfk, run_zeroValue hi hz]
    | some j =>
      obtain ⟨p, hp, rfl⟩ := hjr
      obtain ⟨en, hen, _, hvv⟩ := hmr.get hp
      have hfa : foundAt es.toList 0 (some j) = some (0 + j, en.val) := by simp only [foundAt, hen]; rfl
      rw [hfa] at hfk
      cases ok with
      | true => refine .pure hR (tup2 hvv) ?_; unfold execOp; rw [ho]; simp [Instr.lookup, run_underlying hu, hv, run_getMap hc, hck, hfk]
      | false => refine .pure hR hvv ?_; unfold execOp; rw [ho]; simp [Instr.lookup, run_underlying hu, hv, run_getMap hc, hck, hfk]
theorem run_setMap {c : Nat} {es es' : Array MapEntry} {clock clock' : Nat} (h : w.heap[c]? = some (.map es clock)) : (setObj c (.map es' clock')).run P w = .ok () { w with heap := w.heap.setIfInBounds c (.map es' clock') } := by
  simp [setObj, Sem.run, h]
theorem R.setMap (hR : R P ι σ w) {b c : Nat} {l l' : List (AV × AV)} {es es' : Array MapEntry} {clock clock' : Nat} (hb : ι b = some c) (hg : σ.get b = some (.amap l)) (hc : w.heap[c]? = some (.map es clock)) (hm : MRL ι l' es'.toList) (hbn : Born es'.toList clock') :
    R P ι (σ.put b (some (.amap l'))) { w with heap := w.heap.setIfInBounds c (.map es' clock') } ∧ Later ι σ w ι (σ.put b (some (.amap l'))) { w with heap := w.heap.setIfInBounds c (.map es' clock') } := by
  have hlt : c < w.heap.size := (Array.getElem?_eq_some_iff.1 hc).1
  refine hR.set hb hg (by rintro ⟨x, y, z, hz⟩; rw [hg] at hz; cases hz) (show OR P ι b (.amap l') (.map es' clock') from ⟨es', clock', rfl, hm, hbn⟩) ?_ (by simp) (fun d hd => ?_) rfl rfl rfl
  · simp [hlt]
  · simp [Array.getElem?_setIfInBounds, Ne.symm hd]
theorem ok_mapup {o : Oper} {t kt e : TypeId} {m x y : Operand} {m' x' y' : Opd} {q : EqK} {b : Nat} {l l' : List (AV × AV)} (hR : R P ι σ w) (ht : Slots ι ts a) (ho : o.op = .mapUpdate t m x y) (hu : P.underlying t = some (.map kt e)) (hm : cOpd m = some m') (hx : cOpd x = some x') (hy : cOpd y = some y') (hk : keyKind P kt = some q)
    (hok : keyOk q (evA ts x') = true) (he : evA ts m' = .map b) (hg : σ.get b = some (.amap l)) (hp : mapPut q (evA ts x') (evA ts y') l = some l') :
    Res P ι σ w (σ.put b (some (.amap l'))) undefA ((execOp a.eval o).run P w) := by
  have h1 := cOpd_ok hm ht
  have h2 := cOpd_ok hx ht
  have h3 := cOpd_ok hy ht
  rw [he] at h1
  obtain ⟨c, hb, hv⟩ := h1.map_inv
  obtain ⟨es, clock, hc, hmr, hbn⟩ := hR.amap hb hg
  have hck := keyCk_ok (b := true) (y := .nilsl) hk h2 (keyShape hok) false w
  obtain ⟨j, hj, hjr⟩ := mapPut_idx hp
  have hfk := findKey_ok hk h2 w hmr hj
  cases j with
  | none =>
    simp only at hjr
    simp only [foundAt] at hfk
    have hnew : MRL ι l' (es.push { key := a.eval x, val := a.eval y, born := clock }).toList := by
      rw [hjr, Array.toList_push]; exact hmr.append1 h2 h3
    obtain ⟨r1, r2⟩ := hR.setMap (clock' := clock + 1) hb hg hc hnew (by rw [Array.toList_push]; exact hbn.push _ _)
    refine ⟨ι, _, undef, r2, r1, VR.undef ι, .inr ⟨?_, rfl⟩⟩
    unfold execOp; rw [ho]
    simp [Instr.mapUpdate, run_underlying hu, hv, run_getMap hc, hck, hfk, run_setMap hc]
  | some j =>
    obtain ⟨p, hpj, hl'⟩ := hjr
    obtain ⟨en, hen, hkk, hvv⟩ := hmr.get hpj
    have hfa : foundAt es.toList 0 (some j) = some (0 + j, en.val) := by simp only [foundAt, hen]; rfl
    rw [hfa, Nat.zero_add] at hfk
    -- the key that stands there is the new one
    have hkey : a.eval x = en.key ∧ Instr.sameBits 10000 (a.eval x) (a.eval x) = true := by
      have : ∀ {l : List (AV × AV)} {j : Nat} {p : AV × AV}, mapIdx q (evA ts x') l = some (some j) → l[j]? = some p → eqA q (evA ts x') p.1 = some true := by
        intro l
        induction l with
        | nil => intro j p h; cases h
        | cons c r ih =>
          intro j p h hp
          obtain ⟨ka, va⟩ := c
          unfold mapIdx at h
          split at h <;> rename_i hq
          · injection h with h; injection h with h; subst h; simp at hp; subst hp; exact hq
          · split at h <;> rename_i j' hj'
            · injection h with h; injection h with h; subst h; exact ih hj' (by simpa using hp)
            · cases h
            · cases h
          · cases h
      have hq := keyEq_ok hk (this hj hpj) h2 hkk
      exact ⟨hq.one rfl, hq.bits rfl⟩
    have hmod : MRL ι l' (es.modify j fun e => { e with key := a.eval x, val := a.eval y }).toList := by
      rw [hl']
      have hjlt : j < es.size := by have := (List.getElem?_eq_some_iff.1 hen).1; simpa using this
      have e1 : (es.modify j fun e => { e with key := a.eval x, val := a.eval y }).toList = es.toList.set j { en with key := a.eval x, val := a.eval y } := by
        apply List.ext_getElem?
        intro i
        rw [Array.getElem?_toList, Array.getElem?_modify, List.getElem?_set]
        by_cases hij : j = i
        · subst hij
          have : es[j]? = some en := by simpa using hen
          rw [if_pos rfl, if_pos rfl, if_pos (by simpa using hjlt), this]
          rfl
        · rw [if_neg hij, if_neg hij]; simp
      rw [e1]
      exact hmr.set (by rw [hkey.1]; exact hkk) h3
    have hbm : Born (es.modify j fun e => { e with key := a.eval x, val := a.eval y }).toList clock := hbn.same (by
      apply List.ext_getElem?
      intro i
      rw [List.getElem?_map, List.getElem?_map, Array.getElem?_toList, Array.getElem?_modify]
      by_cases hij : j = i
      · subst hij
        rw [if_pos rfl, Array.getElem?_toList]
        cases es[j]? <;> rfl
      · rw [if_neg hij, Array.getElem?_toList])
    obtain ⟨r1, r2⟩ := hR.setMap (clock' := clock) hb hg hc hmod hbm
    refine ⟨ι, _, undef, r2, r1, VR.undef ι, .inr ⟨?_, rfl⟩⟩
    have hes : es[j]? = some en := by simpa using hen
    have hsame : Instr.sameBits 10000 en.key (a.eval x) = true := by rw [← hkey.1]; exact hkey.2
    unfold execOp; rw [ho]
    simp [Instr.mapUpdate, run_underlying hu, hv, run_getMap hc, hck, hfk, run_setMap hc, hes, Instr.keyThatStays, hsame]
theorem ok_del {o : Oper} {kt e : TypeId} {m x : Operand} {ts' : Array TypeId} {m' x' : Opd} {q : EqK} {b : Nat} {l l' : List (AV × AV)} (hR : R P ι σ w) (ht : Slots ι ts a) (ho : o.op = .call { callee := .builtin .delete, args := #[m, x], argTypes := ts' }) (hu : (ts'[0]?).bind P.underlying = some (.map kt e)) (hm : cOpd m = some m') (hx : cOpd x = some x') (hk : keyKind P kt = some q)
    (hok : keyOk q (evA ts x') = true) (he : evA ts m' = .map b) (hg : σ.get b = some (.amap l)) (hp : mapDel q (evA ts x') l = some l') :
    Res P ι σ w (σ.put b (some (.amap l'))) undefA ((execOp a.eval o).run P w) := by
  have h1 := cOpd_ok hm ht
  have h2 := cOpd_ok hx ht
  rw [he] at h1
  obtain ⟨c, hb, hv⟩ := h1.map_inv
  obtain ⟨es, clock, hc, hmr, hbn⟩ := hR.amap hb hg
  obtain ⟨t, ht0, hu⟩ := at0 hu
  have hck := keyCk_ok (b := true) (y := .nilsl) hk h2 (keyShape hok) es.isEmpty w
  obtain ⟨j, hj, hjr⟩ := mapDel_idx hp
  have hfk := findKey_ok hk h2 w hmr hj
  cases j with
  | none =>
    simp only at hjr
    subst hjr
    simp only [foundAt] at hfk
    obtain ⟨r1, r2⟩ := hR.setMap (clock' := clock) hb hg hc hmr hbn
    refine ⟨ι, _, _, r2, r1, VR.undef ι, .inl ?_⟩
    rw [run_builtin ho]
    simp [Go.builtin, Builtin.delete_, ht0, run_underlying hu, hv, run_getMap hc, hck, hfk, run_setMap hc]
    rfl
  | some j =>
    obtain ⟨hlt, rfl⟩ := hjr
    have hen : ∃ en, es.toList[j]? = some en := ⟨_, List.getElem?_eq_getElem (by have := hmr.len; omega)⟩
    obtain ⟨en, hen⟩ := hen
    have hfa : foundAt es.toList 0 (some j) = some (0 + j, en.val) := by simp only [foundAt, hen]; rfl
    rw [hfa, Nat.zero_add] at hfk
    have hnew : MRL ι (l.eraseIdx j) (es.eraseIdxIfInBounds j).toList := by
      rw [Array.toList_eraseIdxIfInBounds]; exact hmr.erase
    obtain ⟨r1, r2⟩ := hR.setMap (clock' := clock) hb hg hc hnew (by rw [Array.toList_eraseIdxIfInBounds]; exact hbn.sub (List.eraseIdx_sublist _ _))
    refine ⟨ι, _, _, r2, r1, VR.undef ι, .inl ?_⟩
    rw [run_builtin ho]
    simp [Go.builtin, Builtin.delete_, ht0, run_underlying hu, hv, run_getMap hc, hck, hfk, run_setMap hc]
    rfl
theorem ok_clrM {o : Oper} {k e : TypeId} {x : Operand} {ts' : Array TypeId} {y : Opd} {b : Nat} {l : List (AV × AV)} (hR : R P ι σ w) (ht : Slots ι ts a) (ho : o.op = .call { callee := .builtin .clear, args := #[x], argTypes := ts' }) (hu : (ts'[0]?).bind P.underlying = some (.map k e)) (hx : cOpd x = some y)
    (he : evA ts y = .map b) (hg : σ.get b = some (.amap l)) : Res P ι σ w (σ.put b (some (.amap []))) undefA ((execOp a.eval o).run P w) := by
  have h1 := cOpd_ok hx ht
  rw [he] at h1
  obtain ⟨c, hb, hv⟩ := h1.map_inv
  obtain ⟨es, clock, hc, hmr, hbn⟩ := hR.amap hb hg
  obtain ⟨t, ht0, hu⟩ := at0 hu
  obtain ⟨r1, r2⟩ := hR.setMap (es' := #[]) (l' := []) (clock' := clock) hb hg hc trivial (Born.nil _)
  refine ⟨ι, _, _, r2, r1, VR.undef ι, .inl ?_⟩
  rw [run_builtin ho]
  simp [Go.builtin, Builtin.clear_, ht0, run_underlying hu, hv, run_getMap hc, run_setMap hc]
  rfl
end
end Go.Av
