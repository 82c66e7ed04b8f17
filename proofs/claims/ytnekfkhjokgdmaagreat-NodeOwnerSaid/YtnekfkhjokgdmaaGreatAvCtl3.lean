/-
  Av: codes, functions, and what may be called of a program.
-/
import Derived.Test.YtnekfkhjokgdmaaGreatAvCtl2
set_option linter.unusedVariables false
namespace Go.Av

section
variable {P : Program} {ι ι' : Emb} {σ σ' : AS} {w w' : World} {s : Lv} {N m : Nat}

theorem CPost.trans {ι1 : Emb} {σ1 : AS} {w1 : World} {ax : AX} {ts' : TM} {e : Exit} {a' : Act} (hR : R P ι σ w) (h : Later ι σ w ι1 σ1 w1) (k : CPost P N m ι1 σ1 w1 ax ts' σ' e a' w') : CPost P N m ι σ w ax ts' σ' e a' w' := by
  obtain ⟨ι2, h1, h2, h3, h4, h5⟩ := k
  exact ⟨ι2, h1, h.trans (fun b c hb => (hR.lt b c hb).1) h2, h3, h4, h5⟩

/-- A loop over a function. -/
theorem rf_ok (hs : LvOK P s) {f : Operand} {ps : Array Tmp} {asg body : Code} {f' : Opd} {asg' body' : ACode} (hf : cOpd f = some f') (ha : cCode P N asg = some asg') (hb : cCode P N body = some body') (hps : ∀ d ∈ ps.toList, d < N) (hn : noRf asg' = true ∧ noRf body' = true)
    {ts ts' : TM} {ax : AX} (h : cdRf s f' ps.toList asg' body' ts σ = some (ax, ts', σ')) {a : Act} (hR : R P ι σ w) (hT : TR N ι ts a.tmps) (hD : DS m ι w a.defers) (hm : m ≤ w.heap.size) :
    (Code.rangeFunc f ps asg body).wpIn Fence.wide 0 P (CPost P N m ι σ w ax ts' σ') a w := by
  unfold cdRf at h
  split at h <;> try (cases h; done)
  rename_i g first cap hev
  split at h <;> try (cases h; done)
  rename_i u σ2 hcall
  have h1 := cOpd_ok hf hT.at_
  rw [hev] at h1
  obtain ⟨fs, cs, hu, v1, v2⟩ := h1.fn_inv
  refine wpIn_rangeFunc fun fn _ => ?_
  -- the two blocks
  let w1 : World := w.alloc (.deferred (some []))
  let rec_ : Loop := { state := .ready, pending := none, fn := fn, tmps := a.tmps, params := ps, assign := asg, body := body, defers := w.heap.size }
  have hs1 : w1.heap.size = w.heap.size + 1 := by show (w.heap.push _).size = _; simp
  have hold1 : ∀ c, c < w.heap.size → w1.heap[c]? = w.heap[c]? := fun c hc => by
    show (w.heap.push _)[c]? = _
    rw [Array.getElem?_push, if_neg (by omega)]
  have hR1 : R P ι σ w1 := hR.other (by omega) fun b c _ hb => hold1 c (hR.lt b c hb).2
  have hL1 : Later ι σ w ι σ w1 := ⟨Ext.refl _, fun _ _ h => .inl h, Nat.le_refl _, fun _ _ _ => rfl, fun _ _ h => h, by omega, fun c hc _ => hold1 c hc, rfl, rfl, rfl⟩
  have hOR : OR P (at_ ι σ.next w1.heap.size 0) σ.next (.aloop none ts ps.toList asg' body') (.loop rec_) :=
    ⟨N, rec_, rfl, ⟨hT.ext (hR1.ext_at _ _), hps, rfl, ha, hb, hn, fun _ => ⟨rfl, rfl⟩, fun _ h => by cases h⟩⟩
  obtain ⟨hR2, hL2⟩ := hR1.alloc 0 hOR
  have hself : at_ ι σ.next w1.heap.size 0 σ.next = some w1.heap.size := at_self _ _ _ _
  have hargs : VRL (at_ ι σ.next w1.heap.size 0) (first ++ .yld σ.next :: cap) (fs ++ .func (.yield w1.heap.size) #[] #[] :: cs) :=
    (v1.ext hL2.ext).append (.cons (.yld hself) (v2.ext hL2.ext))
  obtain ⟨hop, hcalls⟩ := hs.call _ _ _ _ _ hcall _ _ _ hR2 hargs
  -- the mark
  have hmark : DS m (at_ ι σ.next w1.heap.size 0) (w1.alloc (.loop rec_)) ({ target := .collected w.heap.size, args := #[] } :: a.defers) := by
    have hD2 := (hD.later hL1).later hL2
    have hs2 : (w1.alloc (.loop rec_)).heap.size = w1.heap.size + 1 := by show (w1.heap.push _).size = _; simp
    refine ⟨fun d hd => ?_, ?_⟩
    · rcases List.mem_cons.1 hd with rfl | hd
      · refine ⟨w.heap.size, rfl, hm, by omega, ?_, fun b hb => ?_⟩
        · show (w1.heap.push _)[w.heap.size]? = _
          rw [Array.getElem?_push, if_neg (by omega)]
          show (w.heap.push _)[w.heap.size]? = _
          simp
        · rw [at_blk] at hb
          split at hb
          · injection hb with hb; omega
          · have := (hR.lt b _ hb).2; omega
      · exact hD2.mks d hd
    · refine List.Pairwise.cons (fun d hd e => ?_) hD.once
      obtain ⟨r, h1, _, h3, _⟩ := hD.mks d hd
      subst h1
      simp at e
      omega
  refine ⟨w1.heap.size, [{ target := .collected w.heap.size, args := #[] }], w1.alloc (.loop rec_), { target := .fn (.func g) cs.toArray, args := fs.toArray ++ #[.func (.yield w1.heap.size) #[] #[]] }, w1.alloc (.loop rec_), g, (fs ++ .func (.yield w1.heap.size) #[] #[] :: cs).toArray, w1.alloc (.loop rec_), ?_, ?_, fun _ _ => trivial, ?_, fun h => by (cases h), ?_⟩
  · show (Instr.enterLoop fn a.tmps ps asg body none).run P w = _
    simp [Instr.enterLoop, newObj, Sem.run, w1, rec_]
  · simp [resolve, hu, Deferred.ofValue, show ∀ v, a.eval (.const v) = v from fun _ => rfl]
  · simp only [invoke]
    have : fs.toArray ++ #[Value.func (.yield w1.heap.size) #[] #[]] ++ cs.toArray = (fs ++ .func (.yield w1.heap.size) #[] #[] :: cs).toArray := by
      apply Array.ext'; simp
    rw [this]
    exact run_callFunc hop _ _
  · refine hcalls.mono fun e w3 hret => ?_
    obtain ⟨u', ι3, rfl, la3, hR3, _⟩ := hret
    have hla : Later ι σ w ι3 σ2 w3 := (hL1.trans (fun b c hb => (hR.lt b c hb).1) hL2).trans (fun b c hb => (hR.lt b c hb).1) la3
    have hself3 : ι3 σ.next = some w1.heap.size := (la3.ext _ _ hself).1
    have hT3 : TR N ι3 ts a.tmps := hT.ext hla.ext
    have hD3 := hmark.later la3
    split at h <;> try (cases h; done)
    all_goals
      rename_i hg
      injection h with h; injection h with hax h; injection h with hts hσ
      subst hax hts hσ
      obtain ⟨o', ho', N', r, rfl, hLR⟩ := hR3.obj _ _ _ hself3 hg
      have hlv : σ2.live σ.next := ⟨_, hg⟩
      have hno : ∀ b', (σ2.put σ.next none).live b' → ι3 b' ≠ some w1.heap.size := fun b' ⟨y, hy⟩ hb' => by
        rw [AS.get_put] at hy
        split at hy
        · cases hy
        · rename_i e
          rcases hR3.inj b' σ.next _ ⟨y, hy⟩ hlv hb' hself3 with h1 | ⟨_, ⟨p, q, x, h2⟩⟩
          · exact e h1
          · rw [hg] at h2; cases h2
      have hbut := fun r' => but_set w3 w1.heap.size (.loop r')
      have hR4 : ∀ r', R P ι3 (σ2.put σ.next none) (setAtW w3 w1.heap.size (.loop r')) := fun r' => (hR3.kill _).but (hbut r') hno
      have hL4 : ∀ r', Later ι σ w ι3 (σ2.put σ.next none) (setAtW w3 w1.heap.size (.loop r')) := fun r' => by
        refine ⟨hla.ext, hla.new, hla.next, fun x hx hn' => ?_, fun x hx hn' => ?_, by rw [(hbut r').size]; exact hla.size, fun d hd hf => ?_, hla.os, hla.tape, hla.output⟩
        · rw [AS.get_put, if_neg (by omega)]; exact hla.ghost x hx hn'
        · rw [AS.get_put, if_neg (by omega)]; exact hla.dead x hx hn'
        · rw [(hbut r').rest d (by omega)]; exact hla.frame d hd hf
      have hD4 : ∀ r', DS m ι3 (setAtW w3 w1.heap.size (.loop r')) ({ target := .collected w.heap.size, args := #[] } :: a.defers) := fun r' => hD3.but (hbut r') hself3
    · have hp := hLR.live rfl
      refine ⟨_, _, run_endLoop ho' (by rw [hp.1]; rfl), ?_⟩
      rw [hp.2]
      exact ⟨ι3, rfl, hL4 _, hR4 _, hT3, hD4 _⟩
    · rename_i ax' _ _ _ _
      have hp := hLR.left _ rfl
      refine ⟨_, _, run_endLoop ho' (by rw [hp.1]; rfl), ?_⟩
      rw [hp.2]
      cases ax' with
      | normal => exact wpIn_skip ⟨ι3, rfl, hL4 _, hR4 _, hT3, hD4 _⟩
      | exit id => exact wpIn_exit ⟨ι3, rfl, hL4 _, hR4 _, hT3, hD4 _⟩
      | ret => exact wpIn_ret ⟨ι3, rfl, hL4 _, hR4 _, hT3, hD4 _⟩

theorem code_ok (hs : LvOK P s) (hmix : P.follows .mixedOrders = true) (n : Nat) : ∀ (c : Code) (ac : ACode), cCode P N c = some ac → ∀ (ts : TM) (σ : AS) (ax : AX) (ts' : TM) (σ' : AS), codeA s n ac ts σ = some (ax, ts', σ') →
    ∀ F, (F = Fence.wide ∨ (∃ l, F = Fence.wide.inRound l) ∧ noRf ac = true) → ∀ (ι : Emb) (a : Act) (w : World) (m : Nat), R P ι σ w → TR N ι ts a.tmps → DS m ι w a.defers → m ≤ w.heap.size → c.wpIn F 0 P (CPost P N m ι σ w ax ts' σ') a w := by
  intro c
  have ff : ∀ {F : Fence} {x : Bool}, (F = Fence.wide ∨ (∃ l, F = Fence.wide.inRound l) ∧ x = true) → FF F := fun h => by
    rcases h with h | ⟨h, _⟩
    · exact .inl h
    · exact .inr h
  induction c with
  | skip =>
    intro ac hc ts σ ax ts' σ' h F hF ι a w m hR hT hD hm
    simp only [cCode] at hc
    injection hc with hc; subst hc
    injection h with h; injection h with h1 h; injection h with h2 h3; subst h1 h2 h3
    exact wpIn_skip ⟨ι, rfl, .refl _ _ _, hR, hT, hD⟩
  | exit id =>
    intro ac hc ts σ ax ts' σ' h F hF ι a w m hR hT hD hm
    simp only [cCode] at hc
    injection hc with hc; subst hc
    injection h with h; injection h with h1 h; injection h with h2 h3; subst h1 h2 h3
    exact wpIn_exit ⟨ι, rfl, .refl _ _ _, hR, hT, hD⟩
  | ret =>
    intro ac hc ts σ ax ts' σ' h F hF ι a w m hR hT hD hm
    simp only [cCode] at hc
    injection hc with hc; subst hc
    injection h with h; injection h with h1 h; injection h with h2 h3; subst h1 h2 h3
    exact wpIn_ret ⟨ι, rfl, .refl _ _ _, hR, hT, hD⟩
  | region id ops draw =>
    intro ac hc ts σ ax ts' σ' h F hF ι a w m hR hT hD hm
    simp only [cCode] at hc
    split at hc <;> try (cases hc; done)
    rename_i l hl
    cases draw with
    | false =>
      simp only at hc
      injection hc with hc; subst hc
      have h' : (match opsA s l ts σ with
        | some (ts', σ') => some (AX.normal, ts', σ')
        | none => none) = some (ax, ts', σ') := h
      split at h' <;> try (cases h'; done)
      rename_i ts1 σ1 ho
      injection h' with h'; injection h' with h1 h'; injection h' with h2 h3; subst h1 h2 h3
      refine wpIn_region ?_
      rw [List.range_eq_range']
      exact ops_in hs (ff hF) hl ops.size 0 ι σ ts a w (by omega) (by simpa using ho) hR hT fun ι' a' w' e1 e2 e3 e4 => ⟨ι', rfl, e1, e2, e3, by rw [e4]; exact hD.later e1⟩
    | true =>
      simp only at hc
      split at hc <;> try (cases hc; done)
      rename_i ks hk
      injection hc with hc; subst hc
      have h' : (match regD s l ks ts σ with
        | some (ts', σ') => some (AX.normal, ts', σ')
        | none => none) = some (ax, ts', σ') := h
      split at h' <;> try (cases h'; done)
      rename_i ts1 σ1 ho
      injection h' with h'; injection h' with h1 h'; injection h' with h2 h3; subst h1 h2 h3
      exact region_draw hs (ff hF) hmix hl hk ho hR hT fun ι' a' w' e1 e2 e3 e4 => ⟨ι', rfl, e1, e2, e3, by rw [e4]; exact hD.later e1⟩
  | seq x y ihx ihy =>
    intro ac hc ts σ ax ts' σ' h F hF ι a w m hR hT hD hm
    simp only [cCode] at hc
    split at hc <;> try (cases hc; done)
    rename_i x' y' hx hy
    injection hc with hc; subst hc
    have hF1 : F = Fence.wide ∨ (∃ l, F = Fence.wide.inRound l) ∧ noRf x' = true := hF.imp id fun h => ⟨h.1, (Bool.and_eq_true_iff.1 h.2).1⟩
    have hF2 : F = Fence.wide ∨ (∃ l, F = Fence.wide.inRound l) ∧ noRf y' = true := hF.imp id fun h => ⟨h.1, (Bool.and_eq_true_iff.1 h.2).2⟩
    have h' : (match codeA s n x' ts σ with
      | some (.normal, ts1, σ1) => codeA s n y' ts1 σ1
      | r => r) = some (ax, ts', σ') := h
    refine wpIn_seq ?_
    cases hx1 : codeA s n x' ts σ with
    | none => rw [hx1] at h'; cases h'
    | some p =>
      obtain ⟨ax1, ts1, σ1⟩ := p
      refine wpIn_mono (ihx x' hx ts σ ax1 ts1 σ1 hx1 F hF1 ι a w m hR hT hD hm) fun e a1 w1 hp => ?_
      rw [hx1] at h'
      cases ax1 with
      | normal =>
        obtain ⟨ι1, rfl, la, hR1, hT1, hD1⟩ := hp
        exact wpIn_mono (ihy y' hy ts1 σ1 ax ts' σ' h' F hF2 ι1 a1 w1 m hR1 hT1 hD1 (Nat.le_trans hm la.size)) fun e a2 w2 hp => hp.trans hR la
      | exit id =>
        injection h' with h'; injection h' with h1 h'; injection h' with h2 h3; subst h1 h2 h3
        obtain ⟨ι1, rfl, r⟩ := hp
        exact ⟨ι1, rfl, r⟩
      | ret =>
        injection h' with h'; injection h' with h1 h'; injection h' with h2 h3; subst h1 h2 h3
        obtain ⟨ι1, rfl, r⟩ := hp
        exact ⟨ι1, rfl, r⟩
  | cond x y z ihy ihz =>
    intro ac hc ts σ ax ts' σ' h F hF ι a w m hR hT hD hm
    simp only [cCode] at hc
    split at hc <;> try (cases hc; done)
    rename_i x' y' z' hx hy hz
    injection hc with hc; subst hc
    have hF1 : F = Fence.wide ∨ (∃ l, F = Fence.wide.inRound l) ∧ noRf y' = true := hF.imp id fun h => ⟨h.1, (Bool.and_eq_true_iff.1 h.2).1⟩
    have hF2 : F = Fence.wide ∨ (∃ l, F = Fence.wide.inRound l) ∧ noRf z' = true := hF.imp id fun h => ⟨h.1, (Bool.and_eq_true_iff.1 h.2).2⟩
    have h' : (match evA ts x' with
      | .bool true => codeA s n y' ts σ
      | .bool false => codeA s n z' ts σ
      | _ => none) = some (ax, ts', σ') := h
    have hv := cOpd_ok (a := a) hx hT.at_
    split at h' <;> try (cases h'; done)
    · rename_i he
      rw [he] at hv
      exact wpIn_cond_true hv.bool_inv (ihy y' hy ts σ ax ts' σ' h' F hF1 ι a w m hR hT hD hm)
    · rename_i he
      rw [he] at hv
      exact wpIn_cond_false hv.bool_inv (ihz z' hz ts σ ax ts' σ' h' F hF2 ι a w m hR hT hD hm)
  | block id c ih =>
    intro ac hc ts σ ax ts' σ' h F hF ι a w m hR hT hD hm
    simp only [cCode] at hc
    split at hc <;> try (cases hc; done)
    rename_i c' hc'
    injection hc with hc; subst hc
    have h' : (match codeA s n c' ts σ with
      | some (.exit j, ts', σ') => bif Nat.beq j id then some (.normal, ts', σ') else some (.exit j, ts', σ')
      | r => r) = some (ax, ts', σ') := h
    refine wpIn_block ?_
    cases h1 : codeA s n c' ts σ with
    | none => rw [h1] at h'; cases h'
    | some p =>
      obtain ⟨ax1, ts1, σ1⟩ := p
      refine wpIn_mono (ih c' hc' ts σ ax1 ts1 σ1 h1 F hF ι a w m hR hT hD hm) fun e a1 w1 hp => ?_
      rw [h1] at h'
      obtain ⟨ι1, rfl, r⟩ := hp
      cases ax1 with
      | normal =>
        injection h' with h'; injection h' with h1 h'; injection h' with h2 h3; subst h1 h2 h3
        exact ⟨ι1, rfl, r⟩
      | ret =>
        injection h' with h'; injection h' with h1 h'; injection h' with h2 h3; subst h1 h2 h3
        exact ⟨ι1, rfl, r⟩
      | exit j =>
        simp only at h'
        show if j = id then _ else _
        cases hb : Nat.beq j id with
        | true =>
          rw [hb] at h'
          injection h' with h'; injection h' with h1 h'; injection h' with h2 h3; subst h1 h2 h3
          rw [if_pos (beq_true hb)]
          exact ⟨ι1, rfl, r⟩
        | false =>
          rw [hb] at h'
          injection h' with h'; injection h' with h1 h'; injection h' with h2 h3; subst h1 h2 h3
          rw [if_neg (beq_false hb)]
          exact ⟨ι1, rfl, r⟩
  | loop c ih =>
    intro ac hc ts σ ax ts' σ' h F hF ι a w m hR hT hD hm
    simp only [cCode] at hc
    split at hc <;> try (cases hc; done)
    rename_i c' hc'
    injection hc with hc; subst hc
    have h' : iterA (codeA s n c') n ts σ = some (ax, ts', σ') := h
    refine wpIn_loop_ghost (fun k a1 w1 => ∃ ts1 σ1 ι1, iterA (codeA s n c') k ts1 σ1 = some (ax, ts', σ') ∧ Later ι σ w ι1 σ1 w1 ∧ R P ι1 σ1 w1 ∧ TR N ι1 ts1 a1.tmps ∧ DS m ι1 w1 a1.defers) n ⟨ts, σ, ι, h', .refl _ _ _, hR, hT, hD⟩ ?_
    intro k a1 w1 ⟨ts1, σ1, ι1, hit, la, hR1, hT1, hD1⟩
    cases k with
    | zero => cases hit
    | succ k =>
      have hit' : (match codeA s n c' ts1 σ1 with
        | some (.normal, ts', σ') => iterA (codeA s n c') k ts' σ'
        | r => r) = some (ax, ts', σ') := hit
      cases h1 : codeA s n c' ts1 σ1 with
      | none => rw [h1] at hit'; cases hit'
      | some p =>
        obtain ⟨ax1, ts2, σ2⟩ := p
        refine wpIn_mono (ih c' hc' ts1 σ1 ax1 ts2 σ2 h1 F hF ι1 a1 w1 m hR1 hT1 hD1 (Nat.le_trans hm la.size)) fun e a2 w2 hp => ?_
        rw [h1] at hit'
        cases ax1 with
        | normal =>
          obtain ⟨ι2, rfl, la2, hR2, hT2, hD2⟩ := hp
          exact ⟨k, Nat.lt_succ_self _, ts2, σ2, ι2, hit', la.trans (fun b c hb => (hR.lt b c hb).1) la2, hR2, hT2, hD2⟩
        | exit id =>
          injection hit' with h'; injection h' with h1 h'; injection h' with h2 h3; subst h1 h2 h3
          have := hp.trans hR la
          obtain ⟨ι2, rfl, r⟩ := this
          exact ⟨ι2, rfl, r⟩
        | ret =>
          injection hit' with h'; injection h' with h1 h'; injection h' with h2 h3; subst h1 h2 h3
          have := hp.trans hR la
          obtain ⟨ι2, rfl, r⟩ := this
          exact ⟨ι2, rfl, r⟩
  | rangeFunc f ps x y ihx ihy =>
    intro ac hc ts σ ax ts' σ' h F hF ι a w m hR hT hD hm
    simp only [cCode] at hc
    split at hc <;> try (cases hc; done)
    rename_i f' x' y' hf hx hy
    split at hc <;> try (cases hc; done)
    rename_i hb
    injection hc with hc; subst hc
    rw [Bool.and_eq_true, Bool.and_eq_true] at hb
    rcases hF with rfl | ⟨_, hno⟩
    · exact rf_ok hs hf hx hy (fun d hd => of_decide_eq_true (List.all_eq_true.1 hb.1.1 d hd)) ⟨hb.1.2, hb.2⟩ h hR hT hD hm
    · cases hno
  | _ => intro ac hc; simp [cCode] at hc
end
end Go.Av
