/-
  Av: what the small machine says of a call holds of the model's.
-/
import Derived.Test.YtnekfkhjokgdmaaGreatAvCtl3
set_option linter.unusedVariables false
namespace Go.Av

section
variable {P : Program} {ι ι' : Emb} {σ σ' : AS} {w w' : World} {s : Lv} {N m : Nat}

theorem load_cell {t : TypeId} {n : Nat} {g : Bool} {x v : AV} {u : Value} (hR : R P ι σ w) (hs : sizeAt P t = some n) (hg : aggAt P t = some g) (hl : loadA σ (if g then n else 1) g x = some v) (hx : VR ι x u) :
    ∃ z, (do loadVar t (← asAddr u) : Sem Value).run P w = .ok z w ∧ VR ι v z := by
  obtain ⟨b, off, c, ro, ex, e, l, r, cs, fr, h1, h2, h3, h4, h5, h6, h7, h8, h9⟩ := loadA_ok hl hx hR
  obtain ⟨z, hz, hv⟩ := run_loadVar hs hg h7 h8 h9 h5 h6
  refine ⟨z, ?_, hv⟩
  rw [h3]
  simp [asAddr, hz]

def resF (tmps : Array Value) : ResultVar → Sem Value
  | .tmp t => pure (tmps.getD t undef)
  | .cell a t => do loadVar t (← asAddr (tmps.getD a undef))
theorem results_eq (fn : Func) (tmps : Array Value) : results fn tmps = (do let vs ← fn.results.mapM (resF tmps); pure (if h : vs.size = 1 then vs[0] else .tuple vs)) := by
  unfold results
  congr 2
theorem results_list {ts : TM} {tmps : Array Value} (hR : R P ι σ w) (hT : TR N ι ts tmps) : ∀ {rs : List ResultVar} {ars : List ARes} {l : List AV}, cRes P rs = some ars → resV ts σ ars = some l →
    ∃ vs, (rs.mapM (resF tmps)).run P w = .ok vs w ∧ VRL ι l vs
  | [], ars, l, hc, h => by
    simp only [cRes] at hc
    injection hc with hc; subst hc
    injection h with h; subst h
    exact ⟨[], by simp, .nil⟩
  | .tmp t :: rs, ars, l, hc, h => by
    simp only [cRes] at hc
    split at hc <;> try (cases hc; done)
    rename_i l' hl'
    injection hc with hc; subst hc
    simp only [resV] at h
    split at h <;> try (cases h; done)
    rename_i l2 hl2
    injection h with h; subst h
    obtain ⟨vs, h1, h2⟩ := results_list hR hT hl' hl2
    refine ⟨tmps.getD t undef :: vs, ?_, .cons (hT.at_ t) h2⟩
    rw [List.mapM_cons]
    simp only [resF, Sem.run_bind, Sem.run_pure, Result.andThen_ok]
    rw [h1]
    rfl
  | .cell a t :: rs, ars, l, hc, h => by
    simp only [cRes] at hc
    split at hc <;> try (cases hc; done)
    rename_i n g l' hn hg hl'
    injection hc with hc; subst hc
    simp only [resV] at h
    split at h <;> try (cases h; done)
    rename_i v l2 hv hl2
    injection h with h; subst h
    obtain ⟨vs, h1, h2⟩ := results_list hR hT hl' hl2
    obtain ⟨u, h3, h4⟩ := load_cell hR hn hg hv (hT.at_ a)
    refine ⟨u :: vs, ?_, .cons h4 h2⟩
    rw [List.mapM_cons, Sem.run_bind]
    change ((Sem.run P (do loadVar t (← asAddr (tmps.getD a undef)) : Sem Value) w).andThen _) = _
    rw [h3]
    simp only [Result.andThen_ok, Sem.run_bind]
    rw [h1]
    rfl

theorem results_ok {fn : Func} {ts : TM} {tmps : Array Value} {ars : List ARes} {l : List AV} (hR : R P ι σ w) (hT : TR N ι ts tmps) (hc : cRes P fn.results.toList = some ars) (h : resV ts σ ars = some l) :
    ∃ v, (results fn tmps).run P w = .ok v w ∧ VR ι (resUp l) v := by
  obtain ⟨vs, h1, h2⟩ := results_list hR hT hc h
  have hlen := h2.len
  refine ⟨if h : vs.toArray.size = 1 then vs.toArray[0] else .tuple vs.toArray, ?_, ?_⟩
  · rw [results_eq, Array.mapM_eq_mapM_toList, Sem.run_bind, map_eq_pure_bind, Sem.run_bind, h1]
    rfl
  · match l, vs, h2 with
    | [], [], _ => exact .tup .nil
    | [a], [v], .cons h1 .nil => exact h1
    | a :: b :: r, v :: u :: q, h2 =>
      rw [dif_neg (by simp)]
      exact .tup h2

theorem args_at : ∀ (l : List AV) (n : Nat) (ts : TM) (t : Nat), (argsTM l n ts).at t = if n ≤ t then (match l[t - n]? with | some v => v | none => ts.at t) else ts.at t
  | [], n, ts, t => by
    show ts.at t = _
    simp
  | a :: l, n, ts, t => by
    show (argsTM l (n + 1) (ts.put n a)).at t = _
    rw [args_at l (n + 1) (ts.put n a) t, TM.at_put]
    by_cases h1 : n + 1 ≤ t
    · have h0 : n ≤ t := by omega
      have hne : ¬ t = n := by omega
      have e : (a :: l)[t - n]? = l[t - (n + 1)]? := by rw [show t - n = (t - (n + 1)) + 1 from by omega]; simp
      rw [if_pos h1, if_neg hne, if_pos h0, e]
    · rw [if_neg h1]
      by_cases h2 : t = n
      · subst h2; simp
      · have h0 : ¬ n ≤ t := by omega
        rw [if_neg h2, if_neg h0]
theorem args_ok {l : List AV} {vs : List Value} (h : VRL ι l vs) (hN : l.length ≤ N) : TR N ι (argsTM l 0 .nil) (vs.toArray ++ Array.replicate (N - vs.toArray.size) undef) := by
  have hlen := h.len
  refine ⟨by simp; omega, fun t => ?_⟩
  rw [args_at, if_pos (Nat.zero_le _), Nat.sub_zero, Array.getD_eq_getD_getElem?]
  cases hl : l[t]? with
  | some a =>
    obtain ⟨v, hv, hr⟩ := h.get hl
    have hlt : t < vs.length := (List.getElem?_eq_some_iff.1 hv).1
    rw [Array.getElem?_append_left (by simpa using hlt)]
    simpa [hv] using hr
  | none =>
    rw [List.getElem?_eq_none_iff] at hl
    rw [Array.getElem?_append_right (by simp; omega)]
    have : ((Array.replicate (N - vs.toArray.size) undef)[t - vs.toArray.size]?).getD undef = undef := by
      rw [Array.getElem?_replicate]
      split <;> rfl
    rw [this]
    exact VR.undef _

theorem run_takeDeferred {r : Nat} (h : w.heap[r]? = some (.deferred (some []))) : (Instr.takeDeferred r).run P w = .ok [] (setAtW w r (.deferred none)) := by
  simp [Instr.takeDeferred, getObj, setObj, Sem.run, h, setAtW]

theorem leave_ok {ι0 : Emb} {σ0 : AS} {w0 : World} {fn : Func} {tmps : Array Value} {R' : Ending → World → Prop} (hm : w0.heap.size ≤ m) (hfin : ∀ w', R P ι σ w' → Later ι0 σ0 w0 ι σ w' → ∃ v, (results fn tmps).run P w' = .ok v w' ∧ R' (.returned v) w') :
    ∀ (ds : List Deferred) (w : World), DS m ι w ds → R P ι σ w → Later ι0 σ0 w0 ι σ w → LeavesInM Fence.wide 0 P fn tmps R' ds .returning w
  | [], w, _, hR, hL => hfin w hR hL
  | d :: ds, w, hD, hR, hL => by
    obtain ⟨r, h1, h2, h3, h4, h5⟩ := hD.mks d (by simp)
    have hbut := but_set w r (.deferred none)
    have hone := List.pairwise_cons.1 hD.once
    refine ⟨by simp, .inl ⟨r, setAtW w r (.deferred none), by rw [h1], run_takeDeferred h4, ?_⟩⟩
    refine leave_ok hm hfin ds _ ⟨fun d' hd' => ?_, hone.2⟩ (hR.but hbut fun b _ => h5 b) ⟨hL.ext, hL.new, hL.next, hL.ghost, hL.dead, by rw [hbut.size]; exact hL.size, fun c hc hf => by rw [hbut.rest c (by omega)]; exact hL.frame c hc hf, hL.os, hL.tape, hL.output⟩
    obtain ⟨r', g1, g2, g3, g4, g5⟩ := hD.mks d' (List.mem_cons_of_mem _ hd')
    have hne : r' ≠ r := fun e => hone.1 d' hd' (by rw [h1, g1, e])
    exact ⟨r', g1, g2, by rw [hbut.size]; exact g3, by rw [hbut.rest r' hne]; exact g4, g5⟩

theorem callB_ok (hs : LvOK P s) (hmix : P.follows .mixedOrders = true) {n : Nat} {f : FuncId} {fn : Func} {af : AFun} {args : List AV} {v : AV} (hf : P.funcs[f]? = some fn) (hc : cFun P fn = some af)
    {ax : AX} {ts : TM} {l : List AV} (hlen : args.length ≤ af.ntmps) (hcode : codeA s n af.body (argsTM args 0 .nil) σ = some (ax, ts, σ')) (hax : ax = .normal ∨ ax = .ret) (hres : resV ts σ' af.results = some l) (hv : resUp l = v)
    {vs : List Value} (hR : R P ι σ w) (ha : VRL ι args vs) : CallsIn Fence.wide 0 P f vs.toArray w (Ret P ι σ w σ' v) := by
  unfold cFun at hc
  split at hc <;> try (cases hc; done)
  rename_i c hb
  split at hc <;> try (cases hc; done)
  rename_i b rs hcb hcr
  injection hc with hc; subst hc
  refine callsIn_of_wp_marks hf hb trivial ?_
  refine wpIn_mono (code_ok hs hmix n c b hcb _ _ _ _ _ hcode Fence.wide (.inl rfl) ι { tmps := _, defers := [] } w w.heap.size hR (args_ok ha hlen) (DS.nil _ _ _) (Nat.le_refl _)) fun e a1 w1 hp => ?_
  obtain ⟨ι1, rfl, la, hR1, hT1, hD1⟩ := hp
  have fin : LeavesInM Fence.wide 0 P fn a1.tmps (Ret P ι σ w σ' v) a1.defers .returning w1 := by
    refine leave_ok (Nat.le_refl _) (fun w' hR' hL' => ?_) a1.defers w1 hD1 hR1 la
    obtain ⟨u, h1, h2⟩ := results_ok hR' hT1 hcr hres
    exact ⟨u, h1, u, ι1, rfl, hL', hR', hv ▸ h2⟩
  rcases hax with rfl | rfl
  · exact fin
  · exact fin

/-- A table of functions that the program bears. -/
structure TabOK (P : Program) (FT : FuncId → Option FSpec) : Prop where
  mix : P.follows .mixedOrders = true
  opens : ∀ f sp, FT f = some sp → Opens P f
  code : ∀ f af, FT f = some (.code af) → ∃ fn, P.funcs[f]? = some fn ∧ cFun P fn = some af
  told : ∀ f g, FT f = some (.told g) → ∀ args σ v σ', g args σ = some (v, σ') → ∀ ι w vs, R P ι σ w → VRL ι args vs → CallsIn Fence.wide 0 P f vs.toArray w (Ret P ι σ w σ' v)

theorem lv_ok {FT : FuncId → Option FSpec} (hT : TabOK P FT) (n : Nat) : ∀ d, LvOK P (lvA FT n d) := by
  intro d
  induction d with
  | zero => exact ⟨fun f args σ v σ' h => by (cases h), fun N c ac ts σ ax ts' σ' _ h => by (cases h)⟩
  | succ d ih =>
    refine ⟨fun f args σ v σ' h ι w vs hR ha => ?_, fun N c ac ts σ ax ts' σ' hc h F hF ι a w m hR hTR hD hm => code_ok ih hT.mix n c ac hc ts σ ax ts' σ' h F hF ι a w m hR hTR hD hm⟩
    have h' : callB FT (lvA FT n d) n f args σ = some (v, σ') := h
    unfold callB at h'
    split at h' <;> try (cases h'; done)
    · rename_i g hg
      exact ⟨hT.opens f _ hg, hT.told f g hg args σ v σ' h' ι w vs hR ha⟩
    · rename_i af hg
      refine ⟨hT.opens f _ hg, ?_⟩
      obtain ⟨fn, hf, hc⟩ := hT.code f af hg
      cases hb : Nat.ble args.length af.ntmps with
      | false => rw [hb] at h'; cases h'
      | true =>
        rw [hb] at h'
        simp only [Bool.not_true, cond_false] at h'
        split at h' <;> try (cases h'; done)
        · rename_i ts σ1 hcode
          split at h' <;> try (cases h'; done)
          rename_i l hl
          injection h' with h'; injection h' with h1 h2; subst h2
          exact callB_ok ih hT.mix hf hc (ble_true hb) hcode (.inl rfl) hl h1 hR ha
        · rename_i ts σ1 hcode
          split at h' <;> try (cases h'; done)
          rename_i l hl
          injection h' with h'; injection h' with h1 h2; subst h2
          exact callB_ok ih hT.mix hf hc (ble_true hb) hcode (.inr rfl) hl h1 hR ha

/-- What the machine says of a call. -/
theorem calls_ok {FT : FuncId → Option FSpec} (hT : TabOK P FT) {n d : Nat} {f : FuncId} {args : List AV} {v : AV} (h : (lvA FT n d).call f args σ = some (v, σ')) {vs : List Value} (hR : R P ι σ w) (ha : VRL ι args vs) :
    Calls P f vs.toArray w (Ret P ι σ w σ' v) := callsIn_wide.1 (((lv_ok hT n d).call f args σ v σ' h ι w vs hR ha).2)

/-- Where nothing is known of the world. -/
theorem R.zero (P : Program) (w : World) : R P ⟨fun _ => none, fun _ => 0⟩ σ0 w :=
  ⟨fun _ _ h => by (cases h), fun _ _ => rfl, fun _ _ _ _ _ h => by (cases h), fun _ _ _ h => by (cases h)⟩
end
end Go.Av
