/-
  Av: the operations, further: dispatch of numbers, comparisons, functions, cuts, addresses, maps.
-/
import Derived.Test.YtnekfkhjokgdmaaGreatAvMap
set_option linter.unusedVariables false
set_option linter.unusedSimpArgs false
namespace Go.Av
section
variable {P : Program} {ι : Emb} {σ σ' : AS} {w : World} {ts : TM} {a : Act} {v : AV}

theorem guard_int (op : BinOp) (t : TypeId) (x y : Operand) (k k' : IntKind) (m n : Int) : (eqGuard op t x y (.int k m) (.int k' n)).run P w = .ok () w := by
  cases op <;> simp [eqGuard]
theorem guard_str (op : BinOp) (t : TypeId) (x y : Operand) (m n : ByteArray) : (eqGuard op t x y (.string m) (.string n)).run P w = .ok () w := by
  cases op <;> simp [eqGuard]

theorem ok_bin {o : Oper} {op : BinOp} {t u : TypeId} {x y : Operand} {x' y' : Opd} (hR : R P ι σ w) (ht : Slots ι ts a) (ho : o.op = .binOp op t x y u) (hx : cOpd x = some x') (hy : cOpd y = some y')
    (h : binA op (evA ts x') (evA ts y') = some v) : Res P ι σ w σ v ((execOp a.eval o).run P w) := by
  have h1 := cOpd_ok hx ht
  have h2 := cOpd_ok hy ht
  unfold binA at h
  split at h
  · rename_i k m k' n e1 e2
    rw [e1] at h1; rw [e2] at h2
    have hu1 := h1.int_inv
    have hu2 := h2.int_inv
    have : ∃ r, (binOp op t (.int k m) (.int k' n)).run P w = .ok r w ∧ VR ι v r := by
      split at h
      · exact shiftInt_ok h
      · exact shiftInt_ok h
      · rename_i hs hs'
        cases hk : kEq k k' with
        | false => rw [hk] at h; cases h
        | true =>
          rw [hk] at h
          obtain rfl := kEq_eq hk
          exact binInt_ok (fun e => hs e) (fun e => hs' e) h
    obtain ⟨r, hr, hv⟩ := this
    refine .pure hR hv ?_
    unfold execOp; rw [ho]
    simp [hu1, hu2, guard_int, hr]
  · rename_i m n e1 e2
    rw [e1] at h1; rw [e2] at h2
    have hu1 := h1.str_inv
    have hu2 := h2.str_inv
    obtain ⟨r, hr, hv⟩ := binStr_ok (P := P) (w := w) (t := t) h
    refine .pure hR (hv) ?_
    unfold execOp; rw [ho]
    simp [hu1, hu2, guard_str, hr]
  · cases h

theorem guard_flat {op : BinOp} {t : TypeId} (x y : Operand) (p q : Array Value) (h : P.eqGuardType P.depth t = false) : (eqGuard op t x y (.agg p) (.agg q)).run P w = .ok () w := by
  cases op <;> simp [eqGuard, h]
theorem guard_plain (op : BinOp) (t : TypeId) (x y : Operand) (p q : Value) (h : (∀ c, p ≠ .agg c) ∧ p ≠ .nilIface) : (eqGuard op t x y p q).run P w = .ok () w := by
  obtain ⟨h1, h2⟩ := h
  cases op <;> simp [eqGuard] <;> cases p <;> simp_all

theorem eqk_in {t : TypeId} {k : EqK} {x y : AV} {p q : Value} {b : Bool} (n : Nat)
    (hk : (k = .ptr ∧ ∃ e, P.underlying t = some (.pointer e)) ∨ (k = .slice ∧ ∃ e, P.underlying t = some (.slice e)) ∨ (k = .map ∧ ∃ e f, P.underlying t = some (.map e f)) ∨ (k = .func ∧ ∃ e f g, P.underlying t = some (.func e f g)))
    (h : eqA k x y = some b) (hx : VR ι x p) (hy : VR ι y q) (w : World) : (Op.equalIn (n + 1) t p q).run P w = .ok b w ∧ ((∀ c, p ≠ .agg c) ∧ p ≠ .nilIface) := by
  rcases hk with ⟨rfl, e, hu⟩ | ⟨rfl, e, hu⟩ | ⟨rfl, e, f, hu⟩ | ⟨rfl, e, f, g, hu⟩ <;> cases x <;> cases y <;> simp [eqA] at h <;> subst h <;> cases hx <;> cases hy <;>
    exact ⟨by simp [Op.equalIn, run_underlying hu], fun c hc => (by cases hc), fun hc => (by cases hc)⟩
theorem eqA_ok {t : TypeId} {k : EqK} {x y : AV} {p q : Value} {b : Bool} (hk : eqKind P t = some k) (h : eqA k x y = some b) (hx : VR ι x p) (hy : VR ι y q) (w : World) :
    (Op.equal t p q).run P w = .ok b w ∧ ∀ op u v, (eqGuard op t u v p q).run P w = .ok () w := by
  have flat : P.eqGuardType P.depth t = false → flatKind P t = some k → ((∃ fs, P.underlying t = some (.struct fs)) ∨ (∃ n e, P.underlying t = some (.array n e))) → (Op.equal t p q).run P w = .ok b w ∧ ∀ op u v, (eqGuard op t u v p q).run P w = .ok () w := fun hg hf hs => by
    have hkk : keyKind P t = some k := by
      unfold keyKind
      rcases hs with ⟨fs, hs⟩ | ⟨n, e, hs⟩ <;> rw [hs] <;> exact hf
    refine ⟨(keyEq_ok hkk h hx hy).equal w, fun op u v => ?_⟩
    unfold flatKind at hf
    split at hf
    · injection hf with hf; subst hf
      obtain ⟨l, m, rfl, rfl, hc⟩ := eqA_flat h
      obtain ⟨cs, rfl, _, _⟩ := hx.agg_inv
      obtain ⟨ds, rfl, _, _⟩ := hy.agg_inv
      exact guard_flat u v _ _ hg
    · cases hf
  unfold eqKind at hk
  split at hk <;> rename_i hu
  · injection hk with hk; subst hk
    have hkk : keyKind P t = some (.sc .bool) := by simp [keyKind, hu]
    refine ⟨(keyEq_ok hkk h hx hy).equal w, fun op u v => guard_plain op t u v p q ?_⟩
    have hs := scalarEq_ok h hx hy
    cases hs
    exact ⟨fun c hc => (by cases hc), fun hc => (by cases hc)⟩
  · injection hk with hk; subst hk
    exact ⟨(eqk_in 9999 (.inl ⟨rfl, _, hu⟩) h hx hy w).1, fun op u v => guard_plain op t u v p q (eqk_in 9999 (.inl ⟨rfl, _, hu⟩) h hx hy w).2⟩
  · injection hk with hk; subst hk
    exact ⟨(eqk_in 9999 (.inr (.inl ⟨rfl, _, hu⟩)) h hx hy w).1, fun op u v => guard_plain op t u v p q (eqk_in 9999 (.inr (.inl ⟨rfl, _, hu⟩)) h hx hy w).2⟩
  · injection hk with hk; subst hk
    exact ⟨(eqk_in 9999 (.inr (.inr (.inl ⟨rfl, _, _, hu⟩))) h hx hy w).1, fun op u v => guard_plain op t u v p q (eqk_in 9999 (.inr (.inr (.inl ⟨rfl, _, _, hu⟩))) h hx hy w).2⟩
  · injection hk with hk; subst hk
    exact ⟨(eqk_in 9999 (.inr (.inr (.inr ⟨rfl, _, _, _, hu⟩))) h hx hy w).1, fun op u v => guard_plain op t u v p q (eqk_in 9999 (.inr (.inr (.inr ⟨rfl, _, _, _, hu⟩))) h hx hy w).2⟩
  · split at hk
    · cases hk
    · rename_i hg; exact flat (by simpa using hg) hk (.inl ⟨_, hu⟩)
  · split at hk
    · cases hk
    · rename_i hg; exact flat (by simpa using hg) hk (.inr ⟨_, _, hu⟩)
  · cases hk

def negOp : BinOp → Bool
  | .neq => true
  | _ => false
theorem bin_eq {op : BinOp} {t : TypeId} {k : EqK} {x y : AV} {p q : Value} {b : Bool} (hop : op = .eql ∨ op = .neq) (hk : eqKind P t = some k) (h : eqA k x y = some b) (hx : VR ι x p) (hy : VR ι y q)
    (he : (Op.equal t p q).run P w = .ok b w) : (binOp op t p q).run P w = .ok (.bool (bif negOp op then !b else b)) w := by
  have hsc : ∀ s, k = .sc s → s = .bool := fun s hs => by
    subst hs
    unfold eqKind flatKind at hk
    split at hk <;> first | (injection hk with hk; injection hk with hk; exact hk.symm) | cases hk | (split at hk <;> first | cases hk | (split at hk <;> cases hk))
  cases k with
  | sc s =>
    obtain rfl := hsc s rfl
    have hs := scalarEq_ok h hx hy
    cases hs
    rcases hop with rfl | rfl <;> simp [binOp, he, negOp]
  | flat ks =>
    obtain ⟨l, m, rfl, rfl, hc⟩ := eqA_flat h
    cases hx; cases hy
    rcases hop with rfl | rfl <;> simp [binOp, he, negOp]
  | ptr => cases x <;> cases y <;> simp [eqA] at h <;> cases hx <;> cases hy <;> rcases hop with rfl | rfl <;> simp [binOp, he, negOp]
  | slice => cases x <;> cases y <;> simp [eqA] at h <;> cases hx <;> cases hy <;> rcases hop with rfl | rfl <;> simp [binOp, he, negOp]
  | map => cases x <;> cases y <;> simp [eqA] at h <;> cases hx <;> cases hy <;> rcases hop with rfl | rfl <;> simp [binOp, he, negOp]
  | func => cases x <;> cases y <;> simp [eqA] at h <;> cases hx <;> cases hy <;> rcases hop with rfl | rfl <;> simp [binOp, he, negOp]
theorem ok_eq {o : Oper} {op : BinOp} {t u : TypeId} {x y : Operand} {x' y' : Opd} {k : EqK} {b : Bool} (hR : R P ι σ w) (ht : Slots ι ts a) (ho : o.op = .binOp op t x y u) (hop : op = .eql ∨ op = .neq) (hx : cOpd x = some x') (hy : cOpd y = some y')
    (hk : eqKind P t = some k) (h : eqA k (evA ts x') (evA ts y') = some b) : Res P ι σ w σ (.bool (bif negOp op then !b else b)) ((execOp a.eval o).run P w) := by
  have h1 := cOpd_ok hx ht
  have h2 := cOpd_ok hy ht
  obtain ⟨he, hg⟩ := eqA_ok hk h h1 h2 w
  refine .pure hR (.bool _) ?_
  unfold execOp; rw [ho]
  simp [hg, bin_eq hop hk h h1 h2 he]

theorem ok_un {o : Oper} {op : UnOp} {t : TypeId} {x : Operand} {y : Opd} (hR : R P ι σ w) (ht : Slots ι ts a) (ho : o.op = .unOp op t x) (hx : cOpd x = some y) (h : unA op (evA ts y) = some v) : Res P ι σ w σ v ((execOp a.eval o).run P w) := by
  have h1 := cOpd_ok hx ht
  unfold unA at h
  split at h
  · rename_i b e
    injection h with h; subst h
    rw [e] at h1
    refine .pure hR (.bool _) ?_
    unfold execOp; rw [ho]
    simp [h1.bool_inv, Op.unary]
  · rename_i k n e
    injection h with h; subst h
    rw [e] at h1
    rw [wrapA_eq]
    refine .pure hR (.int _ _) ?_
    unfold execOp; rw [ho]
    simp [h1.int_inv, Op.unary, Op.intArith]
  · cases h
theorem ok_nilck {o : Oper} {x : Operand} {y : Opd} (hR : R P ι σ w) (ht : Slots ι ts a) (ho : o.op = .nilCheck x) (hx : cOpd x = some y) (h : (∃ b o, evA ts y = .ptr b o) ∨ (∃ f p q, evA ts y = .fn f p q)) : Res P ι σ w σ (evA ts y) ((execOp a.eval o).run P w) := by
  have h1 := cOpd_ok hx ht
  refine .pure hR h1 ?_
  unfold execOp; rw [ho]
  rcases h with ⟨b, off, e⟩ | ⟨f, p, q, e⟩
  · rw [e] at h1
    obtain ⟨c, _, hu⟩ := h1.ptr_inv
    simp [hu]
  · rw [e] at h1
    have : ∃ fs cs, a.eval x = .func (.func f) fs cs := by
      generalize a.eval x = u at h1
      cases h1; exact ⟨_, _, rfl⟩
    obtain ⟨fs, cs, hu⟩ := this
    simp [hu]
theorem ok_convI {o : Oper} {s d : TypeId} {x : Operand} {y : Opd} {k j k' : IntKind} {n : Int} (hR : R P ι σ w) (ht : Slots ι ts a) (ho : o.op = .convert s d x) (hx : cOpd x = some y) (hs : P.underlying s = some (.int j)) (hd : P.underlying d = some (.int k))
    (h : evA ts y = .int k' n) : Res P ι σ w σ (.int k (wrapA k n)) ((execOp a.eval o).run P w) := by
  have h1 := cOpd_ok hx ht
  rw [h] at h1
  rw [wrapA_eq]
  refine .pure hR (.int _ _) ?_
  unfold execOp; rw [ho]
  simp [convert, run_underlying hs, run_underlying hd, h1.int_inv, Conv.intToInt]
theorem ok_convS {o : Oper} {s d : TypeId} {x : Operand} {y : Opd} (hR : R P ι σ w) (ht : Slots ι ts a) (ho : o.op = .convert s d x) (hx : cOpd x = some y) (hs : P.underlying s = some .string) (hd : P.underlying d = some .string)
    (h : ∃ l, evA ts y = .str l) : Res P ι σ w σ (evA ts y) ((execOp a.eval o).run P w) := by
  have h1 := cOpd_ok hx ht
  refine .pure hR h1 ?_
  obtain ⟨l, h⟩ := h
  rw [h] at h1
  unfold execOp; rw [ho]
  simp [convert, run_underlying hs, run_underlying hd, h1.str_inv]
theorem ok_mkfn {o : Oper} {f : FuncId} {p q : Array Operand} {p' q' : List Opd} (hR : R P ι σ w) (ht : Slots ι ts a) (ho : o.op = .makeFunc (.func f) p q) (hp : cOpds p.toList = some p') (hq : cOpds q.toList = some q') :
    Res P ι σ w σ (.fn f (evL ts p') (evL ts q')) ((execOp a.eval o).run P w) := by
  have h1 := cOpds_ok hp ht
  have h2 := cOpds_ok hq ht
  refine .pure hR (.fn h1 h2) ?_
  unfold execOp; rw [ho]
  have e : ∀ r : Array Operand, (r.toList.map a.eval).toArray = r.map a.eval := fun r => by apply Array.ext'; simp
  rw [e, e]
  simp [Instr.makeFunc]
theorem new_mkmap {o : Oper} {t k e : TypeId} {r : Option Operand} {r' : Option Opd} (b : Nat) (ht : Slots ι ts a) (ho : o.op = .makeMap t r) (hu : P.underlying t = some (.map k e)) (hr : cOpt r = some r') (hi : ∀ y, r' = some y → ∃ k n, evA ts y = .int k n) :
    NewOK P ι w b (.map b) (.amap []) ((execOp a.eval o).run P w) := by
  refine ⟨.map #[] 0, _, fun ι' hx hb => ⟨⟨#[], 0, rfl, trivial, Born.nil 0⟩, .map hb⟩, ?_⟩
  unfold execOp; rw [ho]
  unfold cOpt at hr
  split at hr
  · simp [Instr.makeMap, newObj, Sem.run]
  · rename_i x
    split at hr
    · rename_i y hy
      injection hr with hr; subst hr
      obtain ⟨k', n, hkn⟩ := hi y rfl
      have h1 := cOpd_ok hy ht
      rw [hkn] at h1
      simp [Instr.makeMap, run_underlying hu, h1.int_inv, asInt, asIntOf, newObj, Sem.run]
    · cases hr
theorem ok_mkmap {o : Oper} {t k e : TypeId} {r : Option Operand} {r' : Option Opd} (hR : R P ι σ w) (ht : Slots ι ts a) (ho : o.op = .makeMap t r) (hu : P.underlying t = some (.map k e)) (hr : cOpt r = some r') (hi : ∀ y, r' = some y → ∃ k n, evA ts y = .int k n) :
    Res P ι σ w (σ.alloc (.amap [])) (.map σ.next) ((execOp a.eval o).run P w) := (new_mkmap _ ht ho hu hr hi).res hR
end
end Go.Av
