/-
  Av: every operation of the small machine that is no call.
-/
import Derived.Test.YtnekfkhjokgdmaaGreatAvOps7
import Derived.Laws.BytesString
set_option linter.unusedVariables false
set_option linter.unusedSimpArgs false
namespace Go.Av
section
variable {P : Program} {ι : Emb} {σ σ' : AS} {w : World} {ts : TM} {a : Act} {v : AV}

theorem ok_app {o : Oper} {s x : Operand} {s' x' : Opd} {ts' : Array TypeId} {e : TypeId} {i : TypeInfo} (hR : R P ι σ w) (ht : Slots ι ts a) (ho : o.op = .call { callee := .builtin .append, args := #[s, x], argTypes := ts' }) (hA : AppArgs P ts' e i) (hs : cOpd s = some s') (hx : cOpd x = some x')
    (h : appA σ e i.size i.bytes (evA ts s') (evA ts x') = some (v, σ')) : Res P ι σ w σ' v ((execOp a.eval o).run P w) := by
  obtain ⟨ι', w', u, h1, h2, h3, h4⟩ := app_ok (ty := o.type) hA hR (cOpd_ok hs ht) (cOpd_ok hx ht) h
  refine ⟨ι', w', u, h2, h3, h4, .inl ?_⟩
  rw [run_builtin ho]
  simp [Go.builtin, h1]
theorem ok_copy {o : Oper} {d x : Operand} {d' x' : Opd} {ts' : Array TypeId} {e : TypeId} {sz m n : Nat} {new : List AV} (hR : R P ι σ w) (ht : Slots ι ts a) (ho : o.op = .call { callee := .builtin .copy, args := #[d, x], argTypes := ts' }) (hu : (ts'[0]?).bind P.underlying = some (.slice e)) (hs : sizeAt P e = some sz) (hd : cOpd d = some d') (hx : cOpd x = some x')
    (hm : lenV (evA ts x') = some m) (hn : lenV (evA ts d') = some n) (hf : firstA σ sz (min m n) (evA ts x') = some new)
    (h : (evA ts d' = .nilsl ∧ σ' = σ) ∨ (∃ b o' q c ex, evA ts d' = .sl b o' q c ex ∧ ((min m n = 0 ∧ σ' = σ) ∨ writeA σ b o' new = some σ'))) : Res P ι σ w σ' (.int .i64 (.ofNat (min m n))) ((execOp a.eval o).run P w) := by
  have h1 := cOpd_ok hd ht
  have h2 := cOpd_ok hx ht
  obtain ⟨i, hi, hsz⟩ := sizeAt_ok hs
  obtain ⟨t, ht0, hu⟩ := at0 hu
  have hlen := lenV_ok (P := P) hm h2 w
  obtain ⟨cs, c1, c2, c3, c4⟩ := first_ok (P := P) hf h2 hR
  have c1' := c1 w rfl
  have hmin : Nat.min m n = min m n := rfl
  rcases h with ⟨e1, rfl⟩ | ⟨b, o', q, c, ex, e1, h⟩
  · rw [e1] at h1 hn
    have hv : a.eval d = .slice none 0 0 := by generalize a.eval d = u at h1; cases h1; rfl
    injection hn with hn; subst hn
    refine .pure hR (.int _ _) ?_
    rw [run_builtin ho]
    simp only [Nat.min_zero] at c1' ⊢
    simp [Go.builtin, Builtin.copy_, ht0, run_underlying hu, hv, hlen, run_sizeOf hi, hsz, c1', goInt]
  · rw [e1] at h1 hn
    obtain ⟨g, c', hg, hv, _⟩ := h1.sl_inv
    injection hn with hn; subst hn
    rcases h with ⟨h0, rfl⟩ | hw
    · have hcs : cs = [] := List.eq_nil_of_length_eq_zero (by rw [← c2.len, c3, h0]; simp)
      subst hcs
      refine .pure hR (.int _ _) ?_
      rw [run_builtin ho]
      simp [Go.builtin, Builtin.copy_, ht0, run_underlying hu, hv, hlen, run_sizeOf hi, hsz, hmin, c1', goInt, storeCells]
    · obtain ⟨w', r1, r2, r3⟩ := write_ok (P := P) hR hg hw c2 c4
      refine ⟨ι, w', _, r3, r2, .int _ _, .inl ?_⟩
      rw [run_builtin ho]
      simp [Go.builtin, Builtin.copy_, ht0, run_underlying hu, hv, hlen, run_sizeOf hi, hsz, hmin, c1', goInt, r1]
theorem ok_clrS {o : Oper} {x : Operand} {y : Opd} {ts' : Array TypeId} {e : TypeId} {z : List AV} (hR : R P ι σ w) (ht : Slots ι ts a) (ho : o.op = .call { callee := .builtin .clear, args := #[x], argTypes := ts' }) (hu : (ts'[0]?).bind P.underlying = some (.slice e)) (hz : zeroOf P e = some z) (hx : cOpd x = some y)
    (h : ((evA ts y = .nilsl ∨ evA ts y = .empsl ∨ ∃ b o' c ex, evA ts y = .sl b o' 0 c ex) ∧ σ' = σ) ∨ (∃ b o' n c ex, n ≠ 0 ∧ evA ts y = .sl b o' n c ex ∧ writeA σ b o' (repl z n) = some σ')) : Res P ι σ w σ' undefA ((execOp a.eval o).run P w) := by
  have h1 := cOpd_ok hx ht
  obtain ⟨t, ht0, hu⟩ := at0 hu
  obtain ⟨i, zv, hi, hzv, hl, hv, hone⟩ := zeroOf_ok hz
  rcases h with ⟨h, rfl⟩ | ⟨b, o', n, c, ex, hn, he, hw⟩
  · have hval : ∃ p q, a.eval x = .slice p 0 q := by
      generalize a.eval x = u at h1
      rcases h with h | h | ⟨b, o', c, ex, h⟩ <;> rw [h] at h1 <;> cases h1 <;> exact ⟨_, _, rfl⟩
    obtain ⟨p, q, hval⟩ := hval
    refine ⟨ι, w, _, .refl _ _ _, hR, VR.undef ι, .inl ?_⟩
    rw [run_builtin ho]
    cases p <;> simp [Go.builtin, Builtin.clear_, ht0, run_underlying hu, hval, undef]
  · rw [he] at h1
    obtain ⟨g, c', hg, hval, _⟩ := h1.sl_inv
    have hsz : zv.cells.size = i.size := by have := (hv ι).len; rw [hl] at this; simpa using this.symm
    have hrow : VRL ι (repl z n) (Builtin.zeroCells zv.cells n).toList := by
      have := row_rel (n := n) (hv ι) hl
      unfold Builtin.zeroCells
      rw [hsz]
      rw [← hsz] at this ⊢
      exact this
    obtain ⟨w', r1, r2, r3⟩ := write_ok (P := P) hR hg hw hrow (repl_one hone n)
    refine ⟨ι, w', _, r3, r2, VR.undef ι, .inl ?_⟩
    rw [run_builtin ho]
    have hn' : ∀ (k : Nat), n = k → k ≠ 0 := fun k hk => by omega
    obtain ⟨n', rfl⟩ : ∃ n', n = n' + 1 := ⟨n - 1, by omega⟩
    simp [Go.builtin, Builtin.clear_, ht0, run_underlying hu, hval, undef, run_zeroValue hi hzv, r1]

theorem avBytes_ok : ∀ {l : List AV} {s : List UInt8} {us : List Value}, avBytes l = some s → VRL ι l us → ∃ ns : List Int, us = ns.map (Value.int .u8) ∧ s = ns.map fun n => UInt8.ofNat n.toNat
  | [], s, us, h, hl => by injection h with h; subst h; cases hl; exact ⟨[], rfl, rfl⟩
  | x :: l, s, us, h, hl => by
    unfold avBytes at h
    split at h
    · rename_i heq; cases heq
    · rename_i n r heq
      injection heq with h1 h2
      subst h1 h2
      split at h
      · rename_i l' hl'
        injection h with h; subst h
        cases hl with | cons hv ht =>
        obtain ⟨ns, rfl, rfl⟩ := avBytes_ok hl' ht
        exact ⟨(n : Int) :: ns, by rw [hv.int_inv]; rfl, by simp⟩
      · cases h
    · cases h
theorem push_fold (ns : List Int) : ∀ r : ByteArray, ns.foldl (fun r n => r.push (UInt8.ofNat n.toNat)) r = ⟨r.data ++ (ns.map fun n => UInt8.ofNat n.toNat).toArray⟩ := by
  induction ns with
  | nil => intro r; simp
  | cons n ns ih =>
    intro r
    rw [List.foldl_cons, ih]
    apply ByteArray.ext
    apply Array.ext'
    simp [ByteArray.push]
theorem ok_b2s {o : Oper} {s d e : TypeId} {x : Operand} {y : Opd} {r : List UInt8} (hR : R P ι σ w) (ht : Slots ι ts a) (ho : o.op = .convert s d x) (hs : P.underlying s = some (.slice e)) (he : P.underlying e = some (.int .u8)) (hd : P.underlying d = some .string) (hx : cOpd x = some y)
    (h : (evA ts y = .nilsl ∧ r = []) ∨ (evA ts y = .empsl ∧ r = []) ∨ (∃ b off n c ex l, evA ts y = .sl b off n c ex ∧ firstA σ 1 n (.sl b off n c ex) = some l ∧ avBytes l = some r)) : Res P ι σ w σ (.str r) ((execOp a.eval o).run P w) := by
  have h1 := cOpd_ok hx ht
  refine .pure hR (.str r) ?_
  unfold execOp; rw [ho]
  have hconv : ∀ p n c, a.eval x = .slice p n c → (Conv.bytesToString (.slice p n c)).run P w = .ok (.string ⟨r.toArray⟩) w → ((do pure (Next.value (← convert s d (a.eval x))) : Sem Next)).run P w = .ok (.value (.string ⟨r.toArray⟩)) w := fun p n c hv hb => by
    rw [hv]
    simp [convert, run_underlying hs, run_underlying hd, run_underlying he, hb]
  rcases h with ⟨h, rfl⟩ | ⟨h, rfl⟩ | ⟨b, off, n, c, ex, l, h, hf, hav⟩ <;> rw [h] at h1
  · have hv : a.eval x = .slice none 0 0 := by generalize a.eval x = u at h1; cases h1; rfl
    exact hconv _ _ _ hv (by simp [Conv.bytesToString]; rfl)
  · have hv : ∃ p c, a.eval x = .slice p 0 c := by generalize a.eval x = u at h1; cases h1; exact ⟨_, _, rfl⟩
    obtain ⟨p, c, hv⟩ := hv
    refine hconv _ _ _ hv ?_
    cases p with
    | none => simp [Conv.bytesToString]; rfl
    | some ad => exact run_bytesToString w ad 0 c [] (by simp [loadCells, loadCellsFrom])
  · obtain ⟨g, c', hg, hv, _⟩ := h1.sl_inv
    refine hconv _ _ _ hv ?_
    obtain ⟨cs, c1, c2, c3, c4⟩ := first_ok (P := P) hf h1 hR
    have c1' := c1 w rfl
    rw [hv] at c1'
    simp only [Builtin.firstCells, Nat.mul_one] at c1'
    obtain ⟨ns, rfl, rfl⟩ := avBytes_ok hav c2
    have := run_bytesToString w ⟨g, off, none⟩ n c' ns c1'
    rw [this, push_fold]
    congr 3
    apply Array.ext'
    simp
end
end Go.Av
