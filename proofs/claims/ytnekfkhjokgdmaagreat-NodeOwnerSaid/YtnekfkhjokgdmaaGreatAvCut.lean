/-
  Av: a function's code is run in parts; between the parts the state is told anew, with what is needed no more left out.
-/
import Derived.Test.YtnekfkhjokgdmaaGreatAvTabOK
set_option linter.unusedVariables false
namespace Go.Av

noncomputable def headS (s : Lv) (n : Nat) (next : ACode → TM → AS → Option (TM × AS)) (c : ACode) (ts : TM) (σ : AS) : Option (TM × AS) :=
  match c with
  | .seq a b => match codeA s n a ts σ with
    | some (.normal, ts', σ') => next b ts' σ'
    | _ => none
  | _ => none
/-- The first 'k' parts of a row of parts. -/
noncomputable def headsA (s : Lv) (n : Nat) (k : Nat) : ACode → TM → AS → Option (TM × AS) :=
  k.rec (fun _ ts σ => some (ts, σ)) (fun _ ih c ts σ => headS s n ih c ts σ)
def dropS : Nat → ACode → ACode
  | 0, c => c
  | k + 1, .seq _ b => dropS k b
  | _ + 1, _ => .skip
noncomputable def sameAs (ts : TM) (σ : AS) (r : Option (TM × AS)) : Bool :=
  match r with
  | some (ts', σ') => Nat.beq σ.next σ'.next && eqT ts ts' && leT σ.h σ'.h
  | none => false

section
variable {P : Program} {ι : Emb} {σ σ' : AS} {w : World} {s : Lv} {N : Nat}

theorem heads_ok (hs : LvOK P s) (hmix : P.follows .mixedOrders = true) (n : Nat) : ∀ (k : Nat) (c : Code) (ac : ACode), cCode P N c = some ac → ∀ (ts ts' : TM) (σ σ' : AS), headsA s n k ac ts σ = some (ts', σ') →
    ∃ c', cCode P N c' = some (dropS k ac) ∧ ∀ (ι : Emb) (a : Act) (w : World) (m : Nat) (Q : Exit → Act → World → Prop), R P ι σ w → TR N ι ts a.tmps → DS m ι w a.defers → m ≤ w.heap.size →
      (∀ ι' a' w', Later ι σ w ι' σ' w' → R P ι' σ' w' → TR N ι' ts' a'.tmps → DS m ι' w' a'.defers → c'.wpIn Fence.wide 0 P Q a' w') → c.wpIn Fence.wide 0 P Q a w := by
  intro k
  induction k with
  | zero =>
    intro c ac hc ts ts' σ σ' h
    injection h with h; injection h with h1 h2
    subst h1 h2
    exact ⟨c, hc, fun ι a w m Q hR hT hD hm hQ => hQ ι a w (.refl _ _ _) hR hT hD⟩
  | succ k ih =>
    intro c ac hc ts ts' σ σ' h
    have h' : headS s n (headsA s n k) ac ts σ = some (ts', σ') := h
    clear h
    cases ac <;> try (cases h'; done)
    rename_i a' b'
    unfold headS at h'
    simp only at h'
    split at h' <;> try (cases h'; done)
    rename_i ts1 σ1 ha
    obtain ⟨x, y, rfl, hx, hy⟩ : ∃ x y, c = .seq x y ∧ cCode P N x = some a' ∧ cCode P N y = some b' := by
      cases c <;> simp only [cCode] at hc <;> first | (cases hc; done) | skip
      case seq x y =>
        split at hc <;> try (cases hc; done)
        rename_i hx hy
        injection hc with hc; injection hc with h1 h2
        subst h1 h2
        exact ⟨x, y, rfl, hx, hy⟩
      all_goals ((repeat' split at hc) <;> first | (cases hc; done) | (injection hc with hc; cases hc))
    obtain ⟨c', hc', hrun⟩ := ih y b' hy ts1 ts' σ1 σ' h'
    refine ⟨c', hc', fun ι a w m Q hR hT hD hm hQ => wpIn_seq ?_⟩
    refine wpIn_mono (code_ok hs hmix n x a' hx _ _ _ _ _ ha Fence.wide (.inl rfl) ι a w m hR hT hD hm) fun e a1 w1 hp => ?_
    obtain ⟨ι1, rfl, la, hR1, hT1, hD1⟩ := hp
    exact hrun ι1 a1 w1 m Q hR1 hT1 hD1 (Nat.le_trans hm la.size) fun ι2 a2 w2 l2 r2 t2 d2 => hQ ι2 a2 w2 (la.trans (fun b c hb => (hR.lt b c hb).1) l2) r2 t2 d2

/-- A state on the way, of a call that began where nothing was known. -/
def Way (P : Program) (N : Nat) (w0 : World) (ac : ACode) (ts : TM) (σ : AS) (Q : Exit → Act → World → Prop) : Prop :=
  ∀ c, cCode P N c = some ac → ∀ (ι : Emb) (a : Act) (w : World), Grown w0 w → (∀ b c, ι b = some c → w0.heap.size ≤ c) → R P ι σ w → TR N ι ts a.tmps → DS w0.heap.size ι w a.defers → c.wpIn Fence.wide 0 P Q a w

theorem Way.cut (hs : LvOK P s) (hmix : P.follows .mixedOrders = true) {n k : Nat} {w0 : World} {ac : ACode} {ts ts' : TM} {Q : Exit → Act → World → Prop} (h : sameAs ts' σ' (headsA s n k ac ts σ) = true)
    (hw : Way P N w0 (dropS k ac) ts' σ' Q) : Way P N w0 ac ts σ Q := by
  intro c hc ι a w hg hi hR hT hD
  unfold sameAs at h
  split at h <;> try (cases h; done)
  rename_i ts1 σ1 hh
  simp only [Bool.and_eq_true] at h
  obtain ⟨⟨h1, h2⟩, h3⟩ := h
  obtain ⟨c', hc', hrun⟩ := heads_ok hs hmix n k c ac hc ts ts1 σ σ1 hh
  refine hrun ι a w w0.heap.size Q hR hT hD hg.size fun ι' a' w' la hR' hT' hD' => ?_
  have hown : ∀ b c, ι' b = some c → w0.heap.size ≤ c := fun b c hb => by
    rcases la.new b c hb with h4 | ⟨_, h4 | ⟨b', _, h5⟩⟩
    · exact hi b c h4
    · exact Nat.le_trans hg.size h4
    · exact hi b' c h5
  have hgr : Grown w0 w' := ⟨Nat.le_trans hg.size la.size, fun c hc => by
      rw [la.frame c (Nat.lt_of_lt_of_le hc hg.size) (fun b _ hb => absurd (hi b c hb) (Nat.not_le_of_lt hc))]; exact hg.old c hc,
    la.os.trans hg.os, la.tape.trans hg.tape, la.output.trans hg.output⟩
  refine hw c' hc' ι' a' w' hgr hown (hR'.less (beq_true h1) (leT_ok h3)) ?_ hD'
  rw [eqT_ok h2]; exact hT'

/-- The last part. -/
noncomputable def endsAs (s : Lv) (n : Nat) (ac : ACode) (rs : List ARes) (v : AV) (ts : TM) (σ : AS) : Bool :=
  match codeA s n ac ts σ with
  | some (.normal, ts', σ') => (match resV ts' σ' rs with | some l => eqAV 8 (resUp l) v | none => false)
  | some (.ret, ts', σ') => (match resV ts' σ' rs with | some l => eqAV 8 (resUp l) v | none => false)
  | _ => false

theorem leave_big {m : Nat} {w0 : World} {fn : Func} {tmps : Array Value} {R' : Ending → World → Prop} (hm : w0.heap.size ≤ m) (hfin : ∀ w', R P ι σ w' → Grown w0 w' → ∃ v, (results fn tmps).run P w' = .ok v w' ∧ R' (.returned v) w') :
    ∀ (ds : List Deferred) (w : World), DS m ι w ds → R P ι σ w → Grown w0 w → LeavesInM Fence.wide 0 P fn tmps R' ds .returning w
  | [], w, _, hR, hL => hfin w hR hL
  | d :: ds, w, hD, hR, hL => by
    obtain ⟨r, h1, h2, h3, h4, h5⟩ := hD.mks d (by simp)
    have hbut := but_set w r (.deferred none)
    have hone := List.pairwise_cons.1 hD.once
    refine ⟨by simp, .inl ⟨r, setAtW w r (.deferred none), by rw [h1], run_takeDeferred h4, ?_⟩⟩
    refine leave_big hm hfin ds _ ⟨fun d' hd' => ?_, hone.2⟩ (hR.but hbut fun b _ => h5 b) ⟨by rw [hbut.size]; exact hL.size, fun c hc => by rw [hbut.rest c (by omega)]; exact hL.old c hc, hL.os, hL.tape, hL.output⟩
    obtain ⟨r', g1, g2, g3, g4, g5⟩ := hD.mks d' (List.mem_cons_of_mem _ hd')
    have hne : r' ≠ r := fun e => hone.1 d' hd' (by rw [h1, g1, e])
    exact ⟨r', g1, g2, by rw [hbut.size]; exact g3, by rw [hbut.rest r' hne]; exact g4, g5⟩

/-- What a call that knows nothing comes to: a value without addresses, in a world that has grown. -/
def Gives (P : Program) (f : FuncId) (v : AV) : Prop := ∀ w, CallsIn Fence.wide 0 P f #[] w fun e w' => ∃ u ι, e = .returned u ∧ Grown w w' ∧ VR ι v u

theorem Way.last (hs : LvOK P s) (hmix : P.follows .mixedOrders = true) {n : Nat} {w0 : World} {fn : Func} {rs : List ARes} {ac : ACode} {ts : TM} {v : AV} (hr : cRes P fn.results.toList = some rs) (h : endsAs s n ac rs v ts σ = true) :
    Way P N w0 ac ts σ (bodyPostM Fence.wide 0 P fn fun e w' => ∃ u ι, e = .returned u ∧ Grown w0 w' ∧ VR ι v u) := by
  intro c hc ι a w hg hi hR hT hD
  have key : ∀ ax ts1 σ1, codeA s n ac ts σ = some (ax, ts1, σ1) → (ax = .normal ∨ ax = .ret) → ∀ l, resV ts1 σ1 rs = some l → eqAV 8 (resUp l) v = true →
      c.wpIn Fence.wide 0 P (bodyPostM Fence.wide 0 P fn fun e w' => ∃ u ι, e = .returned u ∧ Grown w0 w' ∧ VR ι v u) a w := fun ax ts1 σ1 hcode hax l hl hv => by
    refine wpIn_mono (code_ok hs hmix n c ac hc _ _ _ _ _ hcode Fence.wide (.inl rfl) ι a w w0.heap.size hR hT hD hg.size) fun e a1 w1 hp => ?_
    obtain ⟨ι1, rfl, la, hR1, hT1, hD1⟩ := hp
    have hv' := eqAV_ok _ _ _ hv
    have hgr : ∀ w', Later ι σ w ι1 σ1 w' → Grown w0 w' := fun w' la => ⟨Nat.le_trans hg.size la.size, fun c hc => by
        rw [la.frame c (Nat.lt_of_lt_of_le hc hg.size) (fun b _ hb => absurd (hi b c hb) (Nat.not_le_of_lt hc))]; exact hg.old c hc,
      la.os.trans hg.os, la.tape.trans hg.tape, la.output.trans hg.output⟩
    have fin : LeavesInM Fence.wide 0 P fn a1.tmps (fun e w' => ∃ u ι, e = .returned u ∧ Grown w0 w' ∧ VR ι v u) a1.defers .returning w1 := by
      refine leave_big (Nat.le_refl _) (fun w' hR' hL' => ?_) a1.defers w1 hD1 hR1 (hgr w1 la)
      obtain ⟨u, g1, g2⟩ := results_ok hR' hT1 hr hl
      exact ⟨u, g1, u, ι1, rfl, hL', hv' ▸ g2⟩
    rcases hax with rfl | rfl
    · exact fin
    · exact fin
  unfold endsAs at h
  split at h <;> try (cases h; done)
  · rename_i ts1 σ1 hcode
    split at h <;> try (cases h; done)
    rename_i l hl
    exact key _ _ _ hcode (.inl rfl) l hl h
  · rename_i ts1 σ1 hcode
    split at h <;> try (cases h; done)
    rename_i l hl
    exact key _ _ _ hcode (.inr rfl) l hl h

theorem gives_ok {f : FuncId} {fn : Func} {af : AFun} {v : AV} (hf : P.funcs[f]? = some fn) (hc : cFun P fn = some af) (hw : ∀ w0, Way P af.ntmps w0 af.body .nil σ0 (bodyPostM Fence.wide 0 P fn fun e w' => ∃ u ι, e = .returned u ∧ Grown w0 w' ∧ VR ι v u)) : Gives P f v := by
  intro w
  unfold cFun at hc
  split at hc <;> try (cases hc; done)
  rename_i c hb
  split at hc <;> try (cases hc; done)
  rename_i b rs hcb hcr
  injection hc with hc; subst hc
  refine callsIn_of_wp_marks hf hb trivial ?_
  refine hw w c hcb ⟨fun _ => none, fun _ => 0⟩ _ w (Grown.refl w) (fun _ _ h => by cases h) (R.zero P w) ?_ (DS.nil _ _ _)
  exact args_ok (l := []) (vs := []) .nil (Nat.zero_le _)

/-- Told of other functions: it gives this, and leaves all as it was. -/
def giveA (v : AV) (args : List AV) (σ : AS) : Option (AV × AS) := match args with | [] => some (v, σ) | _ => none
theorem told_gives {f : FuncId} {b : Bool} (h : Gives P f (.bool b)) : ∀ args σ v σ', giveA (.bool b) args σ = some (v, σ') → ∀ ι w vs, R P ι σ w → VRL ι args vs → CallsIn Fence.wide 0 P f vs.toArray w (Ret P ι σ w σ' v) := by
  intro args σ v σ' hg ι w vs hR ha
  unfold giveA at hg
  split at hg <;> try (cases hg; done)
  injection hg with hg; injection hg with h1 h2
  subst h1 h2
  cases ha
  refine (h w).mono fun e w' hp => ?_
  obtain ⟨u, ι', rfl, hgr, hv⟩ := hp
  obtain ⟨k1, k2⟩ := hgr.keep hR
  exact ⟨u, ι, rfl, k2, k1, by rw [hv.bool_inv]; exact .bool b⟩
end
end Go.Av
