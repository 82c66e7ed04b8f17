/-
  Av: the operations, further: cuts, addresses, fields, lengths, maps.
-/
import Derived.Test.YtnekfkhjokgdmaaGreatAvOps4
set_option linter.unusedVariables false
set_option linter.unusedSimpArgs false
namespace Go.Av
section
variable {P : Program} {ι : Emb} {σ σ' : AS} {w : World} {ts : TM} {a : Act} {v : AV}

theorem asNat_ok {x : AV} {u : Value} {n : Nat} (h : asNat x = some n) (hx : VR ι x u) : ∃ k, u = .int k (n : Int) := by
  unfold asNat at h
  split at h
  · injection h with h; subst h; exact ⟨_, hx.int_inv⟩
  · cases h

theorem new_mksl {o : Oper} {t e : TypeId} {l c : Operand} {l' c' : Opd} {z : List AV} {i : TypeInfo} {n m : Nat} (b : Nat) (ht : Slots ι ts a) (ho : o.op = .makeSlice t l c) (hu : P.underlying t = some (.slice e)) (hl : cOpd l = some l') (hc : cOpd c = some c')
    (hz : zeroOf P e = some z) (hi : P.info? e = some i) (hn : asNat (evA ts l') = some n) (hm : asNat (evA ts c') = some m) (h1 : n ≤ m) (h2 : m ≤ (if i.bytes = 0 then 0 else 1000000000 / i.bytes)) :
    NewOK P ι w b (.sl b 0 n m true) (.cells false true e (repl z m)) ((execOp a.eval o).run P w) := by
  obtain ⟨i', zv, hi', hzv, hlz, hv, hone⟩ := zeroOf_ok hz
  rw [hi] at hi'; injection hi' with hi'; subst hi'
  obtain ⟨k1, e1⟩ := asNat_ok hn (cOpd_ok hl ht)
  obtain ⟨k2, e2⟩ := asNat_ok hm (cOpd_ok hc ht)
  have hrow := row_rel (n := m) (hv ι) hlz
  refine ⟨.cells ((Array.range (m * i.size)).map (zv.cells[· % zv.cells.size]!)) e, _, fun ι' hx hb => ⟨OR.full (hrow.ext hx) (repl_one hone m), .sl hb (Nat.le_refl _) (fun _ => rfl) h1 (fun h => by cases h)⟩, ?_⟩
  have hb : i.bytes * m ≤ 1000000000 := by
    by_cases hb0 : i.bytes = 0
    · rw [hb0]; simp
    · rw [if_neg hb0] at h2
      calc i.bytes * m ≤ i.bytes * (1000000000 / i.bytes) := Nat.mul_le_mul_left _ h2
        _ ≤ 1000000000 := Nat.mul_div_le _ _
  have hm' : m ≤ 1000000000 := by
    by_cases hb0 : i.bytes = 0
    · rw [if_pos hb0] at h2; omega
    · rw [if_neg hb0] at h2
      exact Nat.le_trans h2 (Nat.div_le_self _ _)
  have w1 : IntKind.i64.wrap (n : Int) = n := by rw [IntKind.wrap_i64]; omega
  have w2 : IntKind.i64.wrap (m : Int) = m := by rw [IntKind.wrap_i64]; omega
  have hbi : (i.bytes : Int) * (m : Int) ≤ 1000000000 := by
    have : ((i.bytes * m : Nat) : Int) ≤ 1000000000 := by omega
    rwa [Int.natCast_mul] at this
  unfold execOp; rw [ho]
  have hlarge : ¬ ((decide ((m : Int) < 0) || decide ((i.bytes : Int) * (m : Int) > 2 ^ 48)) || decide ((n : Int) < 0) || decide ((n : Int) > (m : Int))) = true := by
    simp; omega
  have hroom : ¬ (m * i.bytes > roomBytes) := by unfold roomBytes; rw [Nat.mul_comm]; omega
  simp only [Instr.makeSlice, Sem.run_bind, run_underlying hu, Result.andThen_ok, e1, e2, asInt, asIntOf, Sem.run_pure, run_typeInfo hi, w1, w2]
  rw [if_neg (by simpa using hlarge)]
  simp only [Sem.run_bind, askRoom, Int.toNat_natCast, if_neg hroom, Sem.run_pure, Result.andThen_ok, run_sizeOf hi]
  by_cases h0 : m * i.size = 0
  · have e0 : (Array.range (m * i.size)).map (zv.cells[· % zv.cells.size]!) = #[] := Array.eq_empty_of_size_eq_zero (by rw [Array.size_map, Array.size_range, h0])
    have e1 : ∀ f : Nat → Value, (Array.range (m * i.size)).map f = #[] := fun f => Array.eq_empty_of_size_eq_zero (by rw [Array.size_map, Array.size_range, h0])
    rw [e0]
    simp [h0, newRow]
    have e2 : (Array.range 0).map (fun _ => (default : Value)) = #[] := Array.eq_empty_of_size_eq_zero (by rw [Array.size_map, Array.size_range])
    rw [e2]
  · simp [h0, run_zeroValue hi hzv, newRow]

theorem ok_mksl {o : Oper} {t e : TypeId} {l c : Operand} {l' c' : Opd} {z : List AV} {i : TypeInfo} {n m : Nat} (hR : R P ι σ w) (ht : Slots ι ts a) (ho : o.op = .makeSlice t l c) (hu : P.underlying t = some (.slice e)) (hl : cOpd l = some l') (hc : cOpd c = some c')
    (hz : zeroOf P e = some z) (hi : P.info? e = some i) (hn : asNat (evA ts l') = some n) (hm : asNat (evA ts c') = some m) (h1 : n ≤ m) (h2 : m ≤ (if i.bytes = 0 then 0 else 1000000000 / i.bytes)) :
    Res P ι σ w (σ.alloc (.cells false true e (repl z m))) (.sl σ.next 0 n m true) ((execOp a.eval o).run P w) := (new_mksl _ ht ho hu hl hc hz hi hn hm h1 h2).res hR

/-- A bound of a cut. -/
theorem bound_ok {x : Option Operand} {x' : Option Opd} {d y n : Nat} (hc : cOpt x = some x') (ht : Slots ι ts a) (h : boundA ts x' d y = some n) :
    (x' = none ∧ x = none ∧ n = d) ∨ (∃ z k, x = some z ∧ a.eval z = .int k (n : Int) ∧ n ≤ y ∧ x'.isSome = true) := by
  unfold cOpt at hc
  split at hc
  · injection hc with hc; subst hc
    injection h with h
    exact .inl ⟨rfl, rfl, h.symm⟩
  · rename_i z
    split at hc
    · rename_i z' hz
      injection hc with hc; subst hc
      unfold boundA at h
      simp only at h
      split at h
      · rename_i m hm
        cases hb : Nat.ble m y with
        | false => rw [hb] at h; cases h
        | true =>
          rw [hb] at h
          injection h with h; subst h
          obtain ⟨k, hk⟩ := asNat_ok hm (cOpd_ok hz ht)
          exact .inr ⟨z, k, rfl, hk, Nat.le_of_ble_eq_true hb, rfl⟩
      · cases h
    · cases hc
theorem run_bound {u : Value} {k : IntKind} {n y : Nat} (c : BoundsCode) (hu : u = .int k (n : Int)) (h : n ≤ y) : (Instr.sliceBound u y c).run P w = .ok n w := by
  subst hu
  have : (0 : Int) ≤ n ∧ (n : Int) ≤ y := by omega
  simp [Instr.sliceBound, asIntOf, this]
theorem run_bounds {isS : Bool} {len cap m h l : Nat} {lo hi mx : Option Operand} {lo' hi' mx' : Option Opd} (ht : Slots ι ts a) (cl : cOpt lo = some lo') (ch : cOpt hi = some hi') (cm : cOpt mx = some mx') (hmh : mx'.isSome = true → hi'.isSome = true)
    (hm : boundA ts mx' cap cap = some m) (hh : boundA ts hi' len m = some h) (hl : boundA ts lo' 0 h = some l) : (Instr.sliceBounds isS len cap (lo.map a.eval) (hi.map a.eval) (mx.map a.eval)).run P w = .ok (l, h, m) w := by
  rcases bound_ok cm ht hm with ⟨e1, rfl, rfl⟩ | ⟨zm, km, rfl, vm, lm, sm⟩ <;> rcases bound_ok ch ht hh with ⟨e2, rfl, rfl⟩ | ⟨zh, kh, rfl, vh, lh, sh⟩ <;> rcases bound_ok cl ht hl with ⟨e3, rfl, rfl⟩ | ⟨zl, kl, rfl, vl, ll, sl⟩
  all_goals first
    | (exfalso; have := hmh sm; rw [e2] at this; cases this)
    | skip
  · simp [Instr.sliceBounds]
  · simp [Instr.sliceBounds, run_bound _ vl ll]
  · simp [Instr.sliceBounds, run_bound _ vh lh]
  · simp [Instr.sliceBounds, run_bound _ vh lh, run_bound _ vl ll]
  · simp [Instr.sliceBounds, run_bound _ vm lm, run_bound _ vh lh]
  · simp [Instr.sliceBounds, run_bound _ vm lm, run_bound _ vh lh, run_bound _ vl ll]

theorem ok_slstr {o : Oper} {t : TypeId} {x : Operand} {lo hi : Option Operand} {x' : Opd} {lo' hi' : Option Opd} {s : List UInt8} {h l : Nat} (hR : R P ι σ w) (ht : Slots ι ts a) (ho : o.op = .slice t x lo hi none) (hu : P.underlying t = some .string) (hx : cOpd x = some x') (cl : cOpt lo = some lo') (ch : cOpt hi = some hi')
    (hs : evA ts x' = .str s) (hh : boundA ts hi' s.length s.length = some h) (hl : boundA ts lo' 0 h = some l) : Res P ι σ w σ (.str ((s.take h).drop l)) ((execOp a.eval o).run P w) := by
  have h1 := cOpd_ok hx ht
  rw [hs] at h1
  refine .pure hR (.str _) ?_
  have hb := run_bounds (P := P) (w := w) (isS := false) (len := s.length) (cap := s.length) (mx := none) (mx' := none) ht cl ch rfl (by simp) rfl hh hl
  unfold execOp; rw [ho]
  have e : (ByteArray.mk s.toArray).extract l h = ByteArray.mk ((s.take h).drop l).toArray := by
    apply ByteArray.ext
    simp [ByteArray.data_extract, List.extract_eq_take_drop, List.drop_take]
  have hsz : (ByteArray.mk s.toArray).size = s.length := by show s.toArray.size = _; simp
  simp only [Option.map_none, Instr.sliceAt, Sem.run_bind, run_underlying hu, Result.andThen_ok, Instr.slice, h1.str_inv, Option.isSome_none, Bool.false_eq_true, if_false, hsz]
  simp only [Option.map_none] at hb
  simp [hb, e]

theorem VR.sl_inv {b o n c : Nat} {ex : Bool} {u : Value} (h : VR ι (.sl b o n c ex) u) : ∃ g c', ι b = some g ∧ u = .slice (some ⟨g, o, none⟩) n c' ∧ c ≤ c' ∧ (ex = true → c' = c) ∧ n ≤ c ∧ (ex = false → o = 0 → c' = ι.room b) := by
  cases h with | sl h hc he hn hr => exact ⟨_, _, h, rfl, hc, he, hn, hr⟩

theorem sliceS_ok {sz b o n c : Nat} {ex : Bool} {lo hi mx : Option Operand} {lo' hi' mx' : Option Opd} (ht : Slots ι ts a) (cl : cOpt lo = some lo') (ch : cOpt hi = some hi') (cm : cOpt mx = some mx') (hmh : mx'.isSome = true → hi'.isSome = true)
    (h : sliceS ts sz b o n c ex lo' hi' mx' = some v) {g c' : Nat} (hg : ι b = some g) (hc : c ≤ c') (he : ex = true → c' = c) (hn : n ≤ c) (hr : ex = false → o = 0 → c' = ι.room b) (w : World) :
    ∃ l k m, (Instr.sliceBounds true n c' (lo.map a.eval) (hi.map a.eval) (mx.map a.eval)).run P w = .ok (l, k, m) w ∧
      VR ι v (.slice (if m = l then (some ⟨g, o, none⟩ : Option Addr) else (some ⟨g, o, none⟩ : Option Addr).map (·.add (l * sz))) (k - l) (m - l)) := by
  unfold sliceS at h
  split at h
  · cases h
  rename_i m hm
  split at h
  · cases h
  rename_i k hk
  split at h
  · cases h
  rename_i l hl
  have bk : k ≤ m := by
    rcases bound_ok ch ht hk with ⟨e1, _, rfl⟩ | ⟨_, _, _, _, e, _⟩
    · rcases bound_ok cm ht hm with ⟨_, _, rfl⟩ | ⟨_, _, _, _, _, sm⟩
      · exact hn
      · have := hmh sm; rw [e1] at this; cases this
    · exact e
  have bl : l ≤ k := by
    rcases bound_ok cl ht hl with ⟨_, _, rfl⟩ | ⟨_, _, _, _, e, _⟩
    · exact Nat.zero_le _
    · exact e
  -- the model's own bound of the capacity
  have key : ∃ m', boundA ts mx' c' c' = some m' ∧ m ≤ m' ∧ ((ex || mx'.isSome) = true → m' = m) := by
    rcases bound_ok cm ht hm with ⟨rfl, _, rfl⟩ | ⟨z, kd, rfl, hz, hle, sm⟩
    · exact ⟨c', rfl, hc, fun hx => he (by simpa using hx)⟩
    · refine ⟨m, ?_, Nat.le_refl _, fun _ => rfl⟩
      cases mx' with
      | none => cases sm
      | some y =>
        unfold boundA at hm ⊢
        simp only at hm ⊢
        split at hm
        · rename_i q hq
          cases hb : Nat.ble q c with
          | false => rw [hb] at hm; cases hm
          | true =>
            rw [hb] at hm
            injection hm with hm; subst hm
            have : Nat.ble q c' = true := Nat.ble_eq_true_of_le (Nat.le_trans (Nat.le_of_ble_eq_true hb) hc)
            simp [this]
        · cases hm
  obtain ⟨m', hm', hmm, hex⟩ := key
  have hk' : boundA ts hi' n m' = some k := by
    unfold boundA at hk ⊢
    split at hk
    · exact hk
    · rename_i y
      split at hk
      · rename_i q hq
        cases hb : Nat.ble q m with
        | false => rw [hb] at hk; cases hk
        | true =>
          rw [hb] at hk
          injection hk with hk; subst hk
          have : Nat.ble q m' = true := Nat.ble_eq_true_of_le (Nat.le_trans (Nat.le_of_ble_eq_true hb) hmm)
          simp [this]
      · cases hk
  refine ⟨l, k, m', run_bounds ht cl ch cm hmh hm' hk' hl, ?_⟩
  cases hb : Nat.beq m l with
  | true =>
    have hml := Nat.eq_of_beq_eq_true hb
    rw [hb] at h
    simp only [cond_true] at h
    have hkl : k - l = 0 := by omega
    cases hx : ex || mx'.isSome with
    | true =>
      rw [hx] at h
      injection h with h; subst h
      have := hex hx
      rw [if_pos (by omega), hkl, show m' - l = 0 from by omega]
      exact .sl hg (Nat.le_refl _) (fun _ => rfl) (Nat.le_refl _) (fun h => by cases h)
    | false =>
      rw [hx] at h
      injection h with h; subst h
      rw [hkl]
      exact .empsl _ _
  | false =>
    rw [hb] at h
    simp only [cond_false] at h
    have hml : m ≠ l := fun e => by rw [e] at hb; simp at hb
    rw [if_neg (by omega)]
    cases hq : (!(ex || mx'.isSome) && !(Nat.beq l 0)) && Nat.beq sz 0 with
    | true => rw [hq] at h; cases h
    | false =>
      rw [hq] at h
      injection h with h; subst h
      simp only [Option.map_some, add_off]
      refine .sl hg (by omega) (fun hx => by have := hex hx; omega) (by omega) (fun hx ho => ?_)
      have hl0 : l = 0 := by
        rcases Nat.eq_zero_or_pos l with h0 | h0
        · exact h0
        · have hs0 : sz = 0 := by
            rcases Nat.eq_zero_or_pos sz with h1 | h1
            · exact h1
            · have := Nat.mul_pos h0 h1; omega
          subst hs0
          rw [hx] at hq
          have : Nat.beq l 0 = false := by
            cases hbl : Nat.beq l 0 with
            | false => rfl
            | true => have := Nat.eq_of_beq_eq_true hbl; omega
          rw [this] at hq
          simp at hq
      subst hl0
      have hmm' : mx' = none ∧ ex = false := by
        cases mx' <;> cases ex <;> simp at hx
        exact ⟨rfl, rfl⟩
      obtain ⟨rfl, rfl⟩ := hmm'
      injection hm' with hm'
      subst hm'
      simp only [Nat.sub_zero]
      exact hr rfl (by omega)
theorem ok_slsl {o : Oper} {t e : TypeId} {x : Operand} {lo hi mx : Option Operand} {x' : Opd} {lo' hi' mx' : Option Opd} {sz b off n c : Nat} {ex : Bool} (hR : R P ι σ w) (ht : Slots ι ts a) (ho : o.op = .slice t x lo hi mx) (hu : P.underlying t = some (.slice e)) (hs : sizeAt P e = some sz)
    (hx : cOpd x = some x') (cl : cOpt lo = some lo') (ch : cOpt hi = some hi') (cm : cOpt mx = some mx') (hmh : mx'.isSome = true → hi'.isSome = true) (he : evA ts x' = .sl b off n c ex) (h : sliceS ts sz b off n c ex lo' hi' mx' = some v) :
    Res P ι σ w σ v ((execOp a.eval o).run P w) := by
  have h1 := cOpd_ok hx ht
  rw [he] at h1
  obtain ⟨g, c', hg, hv, hc, hex, hn, hrm⟩ := h1.sl_inv
  obtain ⟨i, hi', hsz⟩ := sizeAt_ok hs
  obtain ⟨l, k, m, hb, hvr⟩ := sliceS_ok (P := P) ht cl ch cm hmh h hg hc hex hn hrm w
  refine .pure hR hvr ?_
  unfold execOp; rw [ho]
  simp only [Instr.sliceAt, Sem.run_bind, run_underlying hu, Result.andThen_ok, Instr.slice, hv, hb, run_sizeOf hi', hsz]
  simp
theorem ok_slnil {o : Oper} {t e : TypeId} {x : Operand} {lo hi mx : Option Operand} {x' : Opd} {lo' hi' mx' : Option Opd} {sz m h l : Nat} (hR : R P ι σ w) (ht : Slots ι ts a) (ho : o.op = .slice t x lo hi mx) (hu : P.underlying t = some (.slice e)) (hs : sizeAt P e = some sz)
    (hx : cOpd x = some x') (cl : cOpt lo = some lo') (ch : cOpt hi = some hi') (cm : cOpt mx = some mx') (hmh : mx'.isSome = true → hi'.isSome = true) (he : evA ts x' = .nilsl) (hm : boundA ts mx' 0 0 = some m) (hh : boundA ts hi' 0 m = some h) (hl : boundA ts lo' 0 h = some l) :
    Res P ι σ w σ .nilsl ((execOp a.eval o).run P w) := by
  have h1 := cOpd_ok hx ht
  rw [he] at h1
  have hv : a.eval x = .slice none 0 0 := by
    generalize a.eval x = u at h1
    cases h1; rfl
  obtain ⟨i, hi', hsz⟩ := sizeAt_ok hs
  have hb := run_bounds (P := P) (w := w) (isS := true) (len := 0) (cap := 0) ht cl ch cm hmh hm hh hl
  have b1 : m = 0 := by rcases bound_ok cm ht hm with ⟨_, _, rfl⟩ | ⟨_, _, _, _, e, _⟩ <;> omega
  have b2 : h = 0 := by rcases bound_ok ch ht hh with ⟨_, _, rfl⟩ | ⟨_, _, _, _, e, _⟩ <;> omega
  have b3 : l = 0 := by rcases bound_ok cl ht hl with ⟨_, _, rfl⟩ | ⟨_, _, _, _, e, _⟩ <;> omega
  subst b1 b2 b3
  refine .pure hR .nilsl ?_
  unfold execOp; rw [ho]
  simp only [Instr.sliceAt, Sem.run_bind, run_underlying hu, Result.andThen_ok, Instr.slice, hv, hb, run_sizeOf hi', hsz]
  simp
theorem ok_slarr {o : Oper} {t e : TypeId} {x : Operand} {lo hi mx : Option Operand} {x' : Opd} {lo' hi' mx' : Option Opd} {k sz b off m h l : Nat} (hR : R P ι σ w) (ht : Slots ι ts a) (ho : o.op = .slice t x lo hi mx) (hu : P.underlying t = some (.array k e)) (hs : sizeAt P e = some sz)
    (hx : cOpd x = some x') (cl : cOpt lo = some lo') (ch : cOpt hi = some hi') (cm : cOpt mx = some mx') (hmh : mx'.isSome = true → hi'.isSome = true) (he : evA ts x' = .ptr b off) (hm : boundA ts mx' k k = some m) (hh : boundA ts hi' k m = some h) (hl : boundA ts lo' 0 h = some l) :
    Res P ι σ w σ (.sl b (bif Nat.beq m l then off else off + l * sz) (h - l) (m - l) true) ((execOp a.eval o).run P w) := by
  have h1 := cOpd_ok hx ht
  rw [he] at h1
  obtain ⟨g, hg, hv⟩ := h1.ptr_inv
  obtain ⟨i, hi', hsz⟩ := sizeAt_ok hs
  have hb := run_bounds (P := P) (w := w) (isS := false) (len := k) (cap := k) ht cl ch cm hmh hm hh hl
  have bk : h ≤ m := by
    rcases bound_ok ch ht hh with ⟨e1, _, rfl⟩ | ⟨_, _, _, _, e, _⟩
    · rcases bound_ok cm ht hm with ⟨_, _, rfl⟩ | ⟨_, _, _, _, _, sm⟩
      · exact Nat.le_refl _
      · have := hmh sm; rw [e1] at this; cases this
    · exact e
  have hvr : VR ι (.sl b (bif Nat.beq m l then off else off + l * sz) (h - l) (m - l) true) (.slice (some (if m = l then (⟨g, off, none⟩ : Addr) else (⟨g, off, none⟩ : Addr).add (l * sz))) (h - l) (m - l)) := by
    cases hb : Nat.beq m l with
    | true =>
      rw [if_pos (Nat.eq_of_beq_eq_true hb)]
      exact .sl hg (Nat.le_refl _) (fun _ => rfl) (by omega) (fun h => by cases h)
    | false =>
      rw [if_neg (fun e => by rw [e] at hb; simp at hb), add_off]
      exact .sl hg (Nat.le_refl _) (fun _ => rfl) (by omega) (fun h => by cases h)
  refine .pure hR hvr ?_
  unfold execOp; rw [ho]
  simp only [Instr.sliceAt, Sem.run_bind, run_underlying hu, Result.andThen_ok, hv, Instr.sureAddr, Sem.run_pure, hb, run_sizeOf hi', hsz]
end
end Go.Av
